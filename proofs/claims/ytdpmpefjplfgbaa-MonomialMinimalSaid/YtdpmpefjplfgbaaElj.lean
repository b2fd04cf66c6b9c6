/- Plain facts on lists of monomials. No condition. -/
import Derived.Test.YtdpmpefjplfgbaaEli
namespace Go.EL
open Go

def inM (m : M) (l : List M) : Bool := l.any fun d => decide (dvdM d m)
theorem inM_yes {m : M} {l : List M} {i : Nat} (h : i < l.length) (hd : dvdM l[i] m) : inM m l = true := by
  unfold inM
  rw [List.any_eq_true]
  exact ⟨l[i], List.getElem_mem h, by simpa using hd⟩
theorem inM_no {m : M} {l : List M} (h : ∀ (i : Nat) (hi : i < l.length), ¬ dvdM l[i] m) : inM m l = false := by
  unfold inM
  rw [List.any_eq_false]
  intro d hd
  obtain ⟨i, hi, rfl⟩ := List.getElem_of_mem hd
  simpa using h i hi
theorem step_all {α : Type} {l : List α} {p : (i : Nat) → i < l.length → Prop} {k : Nat} (h : ∀ (i : Nat) (hi : i < l.length), i < k → p i hi) (hk : k < l.length) (hp : p k hk) : ∀ (i : Nat) (hi : i < l.length), i < k + 1 → p i hi := fun i hi hik => by
  by_cases e : i = k
  · subst e; exact hp
  · exact h i hi (by omega)
theorem same_of {l r : List M} (hl : l.length = r.length) (h : ∀ (i : Nat) (h1 : i < l.length) (h2 : i < r.length), l[i] = r[i]) : l = r := List.ext_getElem hl h
theorem take_next {α : Type} {l : List α} {k : Nat} (h : k < l.length) : l.take (k + 1) = l.take k ++ [l[k]] := by rw [List.take_succ_eq_append_getElem h]
end Go.EL
namespace Go.EL
open Go Go.RowKit Go.Proofs

theorem rowL_none {id i : Nat} {e : TypeId} {ov : Option Row} (h : id ≠ i) : (rowL id e ov).get i = none := by
  cases ov with
  | none => rfl
  | some r => simp only [rowL]; rw [Lo.get_cons, if_neg h]; rfl
/-- The row at the end stays, of the others what is wanted. -/
theorem Lo.sub_app {A A' : Lo} {id : Nat} {e : TypeId} {ov : Option Row} (h : Lo.sub A' A) (hid : A.get id = none) : Lo.sub (A' ++ rowL id e ov) (A ++ rowL id e ov) := by
  intro i x hx
  rw [Lo.get_append] at hx ⊢
  cases h1 : A'.get i with
  | some y => rw [h1] at hx; rw [h i y h1]; exact hx
  | none =>
    rw [h1] at hx
    simp only [Option.none_or] at hx
    by_cases e' : id = i
    · subst e'; rw [hid]; simpa using hx
    · rw [rowL_none e'] at hx; cases hx
theorem vecA_cell (f : M) : ∀ u ∈ (vecA f).toList, u.oneCell' = true := by
  have := flat_one_cell [f]
  rwa [flat_one] at this

/-- A slice that reads as a list of descriptions. -/
def SlU (G : Mem) (v : Value) (l : List M) : Prop :=
  ∃ p cap b off, v = .slice p l.length cap ∧ l.length ≤ 9223372036854775807 ∧ (0 < l.length → p = some ⟨b, off, none⟩) ∧ ∀ (i : Nat) (h : i < l.length) (j : Fin 8), G b (off + i * 8 + j.val) = some (.int .u16 (l[i] j))
theorem SlU.cells {G : Mem} {b off : Nat} {l : List M} (h : ∀ (i : Nat) (h : i < l.length) (j : Fin 8), G b (off + i * 8 + j.val) = some (.int .u16 (l[i] j))) {i : Nat} (hi : i < l.length) :
    ∀ (j : Nat) (v : Value), (vecU l[i])[j]? = some v → G b (off + i * 8 + j) = some v := by
  intro j v hv
  have hj : j < 8 := by
    have := (Array.getElem?_eq_some_iff.1 hv).1
    simpa [vecU] using this
  rw [vecU_get _ hj] at hv
  rw [← hv]
  exact h i hi ⟨j, hj⟩

section
variable {P : Program} {N : Nat} {Q : Post} {fr : Fr} {S : Asrt} {ops : Array Oper} {l : List Oper} {dst : Option Nat} {ty : TypeId} {pos : String} {af : Array Edge} {g : Option (Nat × Bool)}
variable {w0 : Bs} {G0 G : Mem} {L : Lo}
theorem Y0.eqlNil {t e yt : TypeId} {x y : Operand} {p : Option Addr} {n c : Nat} (ht : P.underlying t = some (.slice e)) (hx : fr.ev x = some (.slice p n c)) (hy : fr.ev y = some (.slice none 0 0)) : Y0 P N ⟨dst, .binOp .eql t x y yt, ty, pos, af, g⟩ fr S (.bool (decide (p = none))) :=
  Y0.bin hx hy (fun w => by simp [eqGuard]) fun w => by
    have h : ∀ d, (Op.equalIn (d + 1) t (.slice p n c) (.slice none 0 0)).run P w = .ok (decide (p = none)) w := fun d => by
      cases p <;> simp [Op.equalIn, run_underlying ht]
    have h' := h 9999
    simp only [binOp, Op.equal, Op.maxDepth]
    simp [h']
/-- A store of several cells into the middle of a block of the call's own. -/
theorem WL.storeLP {t t' : TypeId} {x y : Operand} {b off n : Nat} {c vs : Array Value} (i : Nat) (hg : guardOK ops fr ⟨none, .store t x y, ty, pos, af, g⟩ true) (ht : (P.info? t).map (·.size) = some n)
    (hx : fr.ev x = some (.pointer (some ⟨b, off, none⟩))) (hy : fr.ev y = some (.agg vs)) (hi : L.get i = some (b, .cells c t' (0, 0))) (hn : vs.size = n) (ho : off + n ≤ c.size) (h1 : vs.toList.all (·.oneCell') = true)
    (k : WL P N ops Q l fr (St w0 G0 G ((i, b, .cells (c.toList.take off ++ vs.toList ++ c.toList.drop (off + n)).toArray t' (0, 0)) :: L))) : WL P N ops Q (⟨none, .store t x y, ty, pos, af, g⟩ :: l) fr (St w0 G0 G L) := by
  refine WL.ys' hg (fun a w ha hs => ?_) k
  have hb := (hs.loc i b _ hi).1
  have hr := run_storeCells_at P b off t' vs.toList 0 c w hb (by simp; omega) (fun v hv => List.all_eq_true.1 h1 v hv)
  simp only [Nat.add_zero, Array.length_toList, hn] at hr
  refine ⟨w.setRow b (c.toList.take off ++ vs.toList ++ c.toList.drop (off + n)).toArray, ?_, hs.upd hi ?_ (fun k hk => ?_) rfl rfl rfl rfl (by simp [World.setRow])⟩
  · simp [execOp, ha.ev hx, ha.ev hy, Instr.storeAt, Instr.sureAddr, storeVar, Value.cells, run_sizeOf ht, hn, hr]
  · simp [World.setRow, Array.getElem?_modify, hb]
  · simp only [World.setRow, Array.getElem?_modify]
    rw [if_neg (fun e => hk e.symm)]
end

theorem flat_set (l : List M) (rest : List Value) (i : Nat) (h : i < l.length) (f : M) : (flat l ++ rest).take (i * 8) ++ (vecA f).toList ++ (flat l ++ rest).drop (i * 8 + 8) = flat (l.set i f) ++ rest := by
  have e : l = l.take i ++ l[i] :: l.drop (i + 1) := by simp
  have hfl : flat l = flat (l.take i) ++ ((vecA l[i]).toList ++ flat (l.drop (i + 1))) := by
    conv => lhs; rw [e]
    rw [flat_append]
    congr 1
  have h1 : (flat (l.take i)).length = i * 8 := by rw [flat_length]; simp; omega
  have hset : l.set i f = l.take i ++ f :: l.drop (i + 1) := by rw [List.set_eq_take_append_cons_drop, if_pos h]
  have hfs : flat (l.set i f) = flat (l.take i) ++ ((vecA f).toList ++ flat (l.drop (i + 1))) := by
    rw [hset, flat_append]
    congr 1
  have h2 : (flat (l.take i) ++ (vecA l[i]).toList).length = i * 8 + 8 := by rw [List.length_append, h1]; rfl
  have t1 : (flat l ++ rest).take (i * 8) = flat (l.take i) := by
    rw [hfl, List.append_assoc]
    exact List.take_left' h1
  have t2 : (flat l ++ rest).drop (i * 8 + 8) = flat (l.drop (i + 1)) ++ rest := by
    have : flat l ++ rest = (flat (l.take i) ++ (vecA l[i]).toList) ++ (flat (l.drop (i + 1)) ++ rest) := by rw [hfl]; simp only [List.append_assoc]
    rw [this]
    exact List.drop_left' h2
  rw [t1, t2, hfs]
  simp only [List.append_assoc]
/-- The cells of a row that begins with the elements of a list. -/
theorem flat_cells (l : List M) (rest : List Value) {i : Nat} (h : i < l.length) : ∀ (j : Nat) (v : Value), (vecA l[i])[j]? = some v → (flat l ++ rest).toArray[i * 8 + j]? = some v := by
  intro j v hv
  have hj : j < 8 := by
    have := (Array.getElem?_eq_some_iff.1 hv).1
    simpa [vecA] using this
  rw [vecA_get _ hj] at hv
  rw [← hv]
  have := flat_get l i h ⟨j, hj⟩
  rw [List.getElem?_toArray, List.getElem?_append_left (by rw [flat_length]; omega)]
  exact this
end Go.EL
namespace Go.EL
open Go Go.RowKit Go.Proofs
section
variable {P : Program} {N : Nat} {fr : Fr} {S : Asrt} {dst : Option Nat} {ty : TypeId} {pos : String} {af : Array Edge} {g : Option (Nat × Bool)}
theorem Y0.idxSlZ {t e : TypeId} {x y : Operand} {len cap b sz i : Nat} {k : IntKind} (ht : P.underlying t = some (.slice e)) (hsz : (P.info? e).map (·.size) = some sz)
    (hx : fr.ev x = some (.slice (some ⟨b, 0, none⟩) len cap)) (hy : fr.ev y = some (.int k (i : Int))) (hi : i < len) : Y0 P N ⟨dst, .indexAddr t x y, ty, pos, af, g⟩ fr S (.pointer (some ⟨b, i * sz, none⟩)) :=
  (Y0.idxSlN ht hsz hx hy hi).eq (by simp)
end
/-- The state of a reversal: the first x and the last x have changed places. -/
structure RevSt (l c : List M) (x : Nat) : Prop where
  len : c.length = l.length
  out : ∀ k, k < l.length → (k < x ∨ l.length - x ≤ k) → c[k]? = l[l.length - 1 - k]?
  mid : ∀ k, k < l.length → ¬ (k < x ∨ l.length - x ≤ k) → c[k]? = l[k]?
theorem RevSt.start (l : List M) : RevSt l l 0 := ⟨rfl, fun k h1 h2 => (by omega), fun k _ _ => rfl⟩
theorem RevSt.step {l c : List M} {x j : Nat} (h : RevSt l c x) (hj : x + j + 1 = l.length) (hx : x < j) (h1 : x < c.length) (h2 : j < c.length) : RevSt l ((c.set x c[j]).set j c[x]) (x + 1) := by
  have hl := h.len
  have e1 : c[j]? = l[j]? := h.mid j (by omega) (by omega)
  have e2 : c[x]? = l[x]? := h.mid x (by omega) (by omega)
  refine ⟨by simp [hl], fun k hk ho => ?_, fun k hk ho => ?_⟩
  · by_cases ekj : k = j
    · subst ekj
      rw [List.getElem?_set_self (by simp; omega)]
      rw [← List.getElem?_eq_getElem h1, e2]
      congr 1; omega
    · rw [List.getElem?_set_ne (fun e => ekj e.symm)]
      by_cases ekx : k = x
      · subst ekx
        rw [List.getElem?_set_self (by omega)]
        rw [← List.getElem?_eq_getElem h2, e1]
        congr 1; omega
      · rw [List.getElem?_set_ne (fun e => ekx e.symm)]
        exact h.out k hk (by omega)
  · rw [List.getElem?_set_ne (by omega), List.getElem?_set_ne (by omega)]
    exact h.mid k hk (by omega)
theorem RevSt.done {l c : List M} {x j : Nat} (h : RevSt l c x) (hj : x + j + 1 = l.length) (hx : ¬ x < j) : c = l.reverse := by
  apply List.ext_getElem?
  intro k
  by_cases hk : k < l.length
  · rw [List.getElem?_reverse hk]
    by_cases ho : k < x ∨ l.length - x ≤ k
    · exact h.out k hk ho
    · rw [h.mid k hk ho]
      congr 1; omega
  · rw [List.getElem?_eq_none (by rw [h.len]; omega), List.getElem?_eq_none (by simp; omega)]
end Go.EL
