/- Rows: slices that the call may still write into. No condition. -/
import Derived.Test.YtbdknlblnfnkkaaEB
import Derived.Shelf.SlSortCmp.NoneTotal
import Derived.Maps.Keyed
import Derived.Carry
namespace Go.EL
open Go Go.RowKit Go.Proofs

/-- What a cell of an own block holds. -/
def CellT (tk : Option Ow) (o : Nat) (u : Value) : Prop := ∃ b c e m, tk = some ⟨b, .cells c e (0, 0), m⟩ ∧ c[o]? = some u
/-- A slice of the call's own, nobody else knows its cells; it reads as a list. -/
def RowR {α : Type} (r : Rp α) (e : TypeId) (G : Mem) (v : Value) (xs : List α) : Option Ow → Prop
  | none => xs = [] ∧ ∃ p, v = .slice p 0 0 ∧ ∀ a, p = some a → a.spot = none
  | some x => ∃ cap cs rest, v = .slice (some ⟨x.b, 0, none⟩) xs.length cap ∧ x.o = .cells (cs ++ rest).toArray e (0, 0) ∧ x.m = 0 ∧ RepL r G cs xs ∧ (cs ++ rest).length = cap * r.size ∧ cap ≤ maxLen ∧ xs.length ≤ cap

section
variable {w0 : Bs} {G0 G : Mem} {L : Lo} {α : Type} {r : Rp α} {e : TypeId}
theorem RowR.form {v : Value} {xs : List α} {tk : Option Ow} (h : RowR r e G v xs tk) : ∃ p cap, v = .slice p xs.length cap := by
  cases tk with
  | none => obtain ⟨rfl, p, h, _⟩ := h; exact ⟨p, 0, h⟩
  | some x => obtain ⟨cap, cs, rest, h, _⟩ := h; exact ⟨_, cap, h⟩
theorem RowR.mono {G' : Mem} {v : Value} {xs : List α} {tk : Option Ow} (h : RowR r e G v xs tk) (hle : Mem.le G G') : RowR r e G' v xs tk := by
  cases tk with
  | none => exact h
  | some x => obtain ⟨cap, cs, rest, h1, h2, h3, h4, h5⟩ := h; exact ⟨cap, cs, rest, h1, h2, h3, h4.mono hle, h5⟩
theorem RowR.nil : RowR r e G (.slice none 0 0) [] none := ⟨rfl, none, rfl, fun _ h => by cases h⟩
theorem RowR.at {p : Option Addr} {n cap : Nat} {xs : List α} {tk : Option Ow} (h : RowR r e G (.slice p n cap) xs tk) {i : Int} {x : α} (hi : 0 ≤ i ∧ xs[i.toNat]? = some x) : AtK r G (CellT tk) (i.toNat * r.size) x := by
  cases tk with
  | none => obtain ⟨rfl, _⟩ := h; simp at hi
  | some y =>
    obtain ⟨cap', cs, rest, h1, h2, h3, h4, h5, _⟩ := h
    obtain ⟨c, hc1, hc2⟩ := h4.get hi.2
    obtain ⟨yb, yo, ym⟩ := y
    dsimp only at h2 h3
    subst h2 h3
    refine ⟨c, hc1, fun j u hu => ⟨yb, _, e, 0, rfl, ?_⟩⟩
    have := hc2 j u hu
    rw [List.getElem?_toArray, List.getElem?_append_left (List.getElem?_eq_some_iff.1 this).1]
    exact this
theorem RowR.block {p : Option Addr} {n cap : Nat} {xs : List α} {x : Ow} (h : RowR r e G (.slice p n cap) xs (some x)) : pb p = x.b ∧ po p = 0 := by
  obtain ⟨cap', cs, rest, h1, _⟩ := h
  cases h1
  exact ⟨rfl, rfl⟩
/-- The mark goes back to the start where nothing is known. -/
theorem St.unmark {i b m : Nat} {o : Obj} {w : World} (h : St w0 G0 G ((i, some ⟨b, o, m⟩) :: L) w) (hG : ∀ k, G b k = none) : St w0 G0 G ((i, some ⟨b, o, 0⟩) :: L) w := by
  have hi : Lo.get ((i, some ⟨b, o, m⟩) :: L) i = some ⟨b, o, m⟩ := by rw [Lo.get_cons, if_pos rfl]
  obtain ⟨l1, l2, l3⟩ := h.loc i _ hi
  have key : ∀ j y, Lo.get ((i, some ⟨b, o, 0⟩) :: L) j = some y → ∃ y', Lo.get ((i, some ⟨b, o, m⟩) :: L) j = some y' ∧ y'.b = y.b := by
    intro j y hj
    rw [Lo.get_cons] at hj ⊢
    split at hj
    · rename_i e; rw [if_pos e]; cases hj; exact ⟨_, rfl, rfl⟩
    · rename_i e; rw [if_neg e]; exact ⟨y, hj, rfl⟩
  refine { h with loc := fun j y hj => ?_, dist := fun j k y z hne e1 e2 => ?_ }
  · rw [Lo.get_cons] at hj
    split at hj
    · rename_i e
      subst e
      cases hj
      exact ⟨l1, l2, fun k _ => hG k⟩
    · rename_i e
      exact h.loc j y (by rw [Lo.get_cons, if_neg e]; exact hj)
  · obtain ⟨y', k1, k2⟩ := key j y e1
    obtain ⟨z', k3, k4⟩ := key k z e2
    rw [← k2, ← k4]
    exact h.dist j k y' z' hne k1 k3

/-- A row may be given away: its cells become known. -/
theorem RowR.freeze {v : Value} {xs : List α} {tk : Option Ow} {key : Nat} (h : RowR r e G v xs tk) (hid : L.get key = tk) (h0 : w0.L.get key = none) {w : World} (hs : St w0 G0 G L w) :
    ∃ G' tk', Mem.le G G' ∧ SlR r G' v xs ∧ Tok r.size e v xs.length tk' ∧ St w0 G0 G' ((key, tk') :: L) w ∧ (∀ Gx L' w', Mem.le G Gx → Mem.le G' Gx → St w0 G0 Gx ((key, tk') :: L') w' → St w0 G0 G ((key, tk) :: L') w') := by
  cases tk with
  | none =>
    obtain ⟨rfl, p, rfl, hp⟩ := h
    exact ⟨G, none, Mem.le_refl _, ⟨p, 0, [], rfl, by simp, hp, fun h => by simp at h, rfl, fun j u h => by simp at h⟩, ⟨p, rfl⟩, hs.weaken (Lo.sub_cons hid (Lo.sub_refl _)), fun Gx L' w' h1 _ h2 => h2.memLe hs.base h1⟩
  | some x =>
    obtain ⟨cap, cs, rest, rfl, h2, h3, h4, h5, h6, h7⟩ := h
    obtain ⟨xb, xo, xm⟩ := x
    dsimp only at h2 h3
    subst h2 h3
    have hl := h4.len
    obtain ⟨k1, k2⟩ := hs.know (i := key) (n := xs.length * r.size) hid h0 (Nat.zero_le _)
    refine ⟨_, some ⟨xb, .cells (cs ++ rest).toArray e (0, 0), xs.length * r.size⟩, k2, ⟨_, cap, cs, rfl, by simp only [maxLen] at h6; omega, fun a ha => by cases ha; rfl, fun _ => rfl, h4.mono k2, fun j u hu => ?_⟩, ⟨cap, _, rfl, rfl, rfl, by simpa using h5, h6, h7⟩, k1, fun Gx L' w' e1 e2 e3 => ?_⟩
    · have hj := (List.getElem?_eq_some_iff.1 hu).1
      show Mem.row G xb _ 0 _ xb (0 + j) = some u
      rw [Nat.zero_add, Mem.row_at (Nat.zero_le _) (by rw [← hl]; exact hj), List.getElem?_toArray, List.getElem?_append_left hj]
      exact hu
    · exact (e3.memLe hs.base e1).unmark (fun k => (hs.loc key _ hid).2.2 k (Nat.zero_le _))
/-- What was appended to and given away is the call's own no more; but a row it was. -/
theorem RowR.tok {v : Value} {xs : List α} {tk : Option Ow} (h : RowR r e G v xs tk) : ∃ p cap, v = .slice p xs.length cap := h.form
end

section
variable {P : Program} {N : Nat} {Q : Post} {fr : Fr} {S : Asrt} {ops : Array Oper} {l : List Oper} {dst : Option Nat} {ty : TypeId} {pos : String} {af : Array Edge} {g : Option (Nat × Bool)}
variable {w0 : Bs} {G0 G : Mem} {L : Lo} {α : Type} {r : Rp α} {e : TypeId}

theorem WL.freezeT {v : Value} {xs : List α} {tk : Option Ow} (key : Nat) (h : RowR r e G v xs tk) (hid : L.get key = tk) (h0 : w0.L.get key = none)
    (k : ∀ tk' G', Mem.le G G' → SlR r G' v xs → Tok r.size e v xs.length tk' → WL P N ops Q l fr (St w0 G0 G' ((key, tk') :: L))) : WL P N ops Q l fr (St w0 G0 G L) := fun a w ha hs => by
  obtain ⟨G', tk', h1, h2, h3, h4, _⟩ := h.freeze hid h0 hs
  exact k tk' G' h1 h2 h3 a w ha h4
theorem WE.freezeT {x : Exit} {v : Value} {xs : List α} {tk : Option Ow} (key : Nat) (h : RowR r e G v xs tk) (hid : L.get key = tk) (h0 : w0.L.get key = none)
    (k : ∀ tk' G', Mem.le G G' → SlR r G' v xs → Tok r.size e v xs.length tk' → WE N Q x fr (St w0 G0 G' ((key, tk') :: L))) : WE N Q x fr (St w0 G0 G L) := fun a w ha hs => by
  obtain ⟨G', tk', h1, h2, h3, h4, _⟩ := h.freeze hid h0 hs
  exact k tk' G' h1 h2 h3 a w ha h4
/-- An operation that reads a row of the call's own, as if it were known; what it yields says nothing of memory. -/
theorem WL.peek {op : Op} {v c : Value} {xs : List α} {tk : Option Ow} (key : Nat) (L' : Lo) (h : RowR r e G v xs tk) (hid : L.get key = tk) (h0 : w0.L.get key = none) (hg : guardOK ops fr ⟨dst, op, ty, pos, af, g⟩ true) (hd : dstOK N dst)
    (hy : ∀ tk' G', Mem.le G G' → SlR r G' v xs → YR P N ⟨dst, op, ty, pos, af, g⟩ fr (St w0 G0 G' ((key, tk') :: L)) (fun u w' => u = c ∧ ∃ G'', Mem.le G' G'' ∧ St w0 G0 G'' ((key, tk') :: L') w'))
    (k : WL P N ops Q l (putFr dst c fr) (St w0 G0 G ((key, tk) :: L'))) : WL P N ops Q (⟨dst, op, ty, pos, af, g⟩ :: l) fr (St w0 G0 G L) := by
  refine WL.yr (Φ := fun u w' => u = c ∧ St w0 G0 G ((key, tk) :: L') w') hg (fun a w ha hs => ?_) hd (fun u a w ha ⟨h1, h2⟩ => by subst h1; exact k a w ha h2)
  obtain ⟨G', tk', h1, h2, h3, h4, h5⟩ := h.freeze hid h0 hs
  exact (hy tk' G' h1 h2 a w ha h4).mono fun u w' ⟨q1, G'', q2, q3⟩ => ⟨q1, h5 G'' L' w' (Mem.le_trans h1 q2) q2 q3⟩

theorem Y0.lenRow {x : Operand} {t e' : TypeId} {v : Value} {xs : List α} {tk : Option Ow} (ht : P.underlying t = some (.slice e')) (h : RowR r e G v xs tk) (hx : fr.ev x = some v) : Y0 P N ⟨dst, .call ⟨.builtin .len, #[x], #[t]⟩, ty, pos, af, g⟩ fr S (.int .i64 (xs.length : Int)) := by
  obtain ⟨p, cap, rfl⟩ := h.form
  exact Y0.lenSl ht hx
theorem Y0.idxRow {t e' : TypeId} {x y : Operand} {n cap sz : Nat} {p : Option Addr} {k : IntKind} {i : Int} {xs : List α} {z : α} {tk : Option Ow} (ht : P.underlying t = some (.slice e')) (hsz : (P.info? e').map (·.size) = some sz) (h : RowR r e G (.slice p n cap) xs tk)
    (hx : fr.ev x = some (.slice p n cap)) (hy : fr.ev y = some (.int k i)) (hi : 0 ≤ i ∧ xs[i.toNat]? = some z) : Y0 P N ⟨dst, .indexAddr t x y, ty, pos, af, g⟩ fr S (.pointer (some ⟨pb p, i.toNat * sz, none⟩)) := by
  cases tk with
  | none => obtain ⟨rfl, _⟩ := h; simp at hi
  | some q =>
    obtain ⟨cap', cs, rest, h1, _⟩ := h
    cases h1
    have hlt := (List.getElem?_eq_some_iff.1 hi.2).1
    exact (Y0.idxSl ht hsz hx hy (by omega)).eq (by simp [pb])
theorem Y0.loadT {t : TypeId} {x : Operand} {p : Option Addr} {n cap off key : Nat} {v : Value} {xs : List α} {tk : Option Ow} (ht : ScalT P t) (h : RowR r e G (.slice p n cap) xs tk) (hid : L.get key = tk) (hx : fr.ev x = some (.pointer (some ⟨pb p, off, none⟩)))
    (hv : CellT tk off v) : Y0 P N ⟨dst, .load t x, ty, pos, af, g⟩ fr (St w0 G0 G L) v := by
  obtain ⟨b, c, e', m, rfl, hc⟩ := hv
  rw [h.block.1] at hx
  exact Y0.loadL key ht hx hid hc
theorem Y0.loadTA {t : TypeId} {x : Operand} {p : Option Addr} {n cap off key sz : Nat} (vs : Array Value) {xs : List α} {tk : Option Ow} (ht : AggT P t sz) (h : RowR r e G (.slice p n cap) xs tk) (hid : L.get key = tk) (hx : fr.ev x = some (.pointer (some ⟨pb p, off, none⟩)))
    (hn : vs.size = sz) (h0 : 0 < sz) (hv : ∀ j u, vs[j]? = some u → CellT tk (off + j) u) : Y0 P N ⟨dst, .load t x, ty, pos, af, g⟩ fr (St w0 G0 G L) (.agg vs) := by
  have h1 := hv 0 _ (Array.getElem?_eq_getElem (by omega))
  obtain ⟨b, c, e', m, rfl, hc⟩ := h1
  rw [h.block.1] at hx
  exact Y0.loadLP vs key ht hx hid hn (fun j u hu => by
    obtain ⟨b2, c2, e2, m2, q1, q2⟩ := hv j u hu
    cases q1
    exact q2)
/-- An element is written. -/
theorem WL.storeT {t : TypeId} {x y : Operand} {p : Option Addr} {n cap sz : Nat} {val : Value} {cs' : List Value} {i : Int} {xs : List α} {z z' : α} {tk : Option Ow} (key : Nat) (hg : guardOK ops fr ⟨none, .store t x y, ty, pos, af, g⟩ true) (ht : (P.info? t).map (·.size) = some sz) (hsr : sz = r.size)
    (h : RowR r e G (.slice p n cap) xs tk) (hid : L.get key = tk) (hx : fr.ev x = some (.pointer (some ⟨pb p, i.toNat * sz, none⟩))) (hy : fr.ev y = some val) (hval : val.cells = cs'.toArray) (hrep : r.rep G cs' z') (hi : 0 ≤ i ∧ xs[i.toNat]? = some z)
    (k : ∀ tk', RowR r e G (.slice p n cap) (xs.set i.toNat z') tk' → WL P N ops Q l fr (St w0 G0 G ((key, tk') :: L))) : WL P N ops Q (⟨none, .store t x y, ty, pos, af, g⟩ :: l) fr (St w0 G0 G L) := by
  cases tk with
  | none => obtain ⟨rfl, _⟩ := h; simp at hi
  | some q =>
    obtain ⟨cap', cs, rest, h1, h2, h3, h4, h5, h6, h7⟩ := h
    cases h1
    obtain ⟨qb, qo, qm⟩ := q
    dsimp only at h2 h3
    subst h2 h3
    have hlt := (List.getElem?_eq_some_iff.1 hi.2).1
    have hsp : xs = xs.take i.toNat ++ (xs[i.toNat] :: xs.drop (i.toNat + 1)) := by simp
    have hcl := h4.len
    rw [hsp] at h4
    obtain ⟨c1, d1, e1, k1, k2⟩ := h4.split
    obtain ⟨c2, d2, e2, k3, k4⟩ := k2
    have l1 := k1.len
    have l2 := r.len k3
    have l3 := r.len hrep
    have hti : (xs.take i.toNat).length = i.toNat := by simp; omega
    rw [hti] at l1
    have hnew : RepL r G (c1 ++ (cs' ++ d2)) (xs.set i.toNat z') := by
      rw [List.set_eq_take_append_cons_drop, if_pos hlt]
      exact k1.append ⟨cs', d2, rfl, hrep, k4⟩
    have hcells : ((cs ++ rest).take (i.toNat * sz) ++ cs' ++ (cs ++ rest).drop (i.toNat * sz + sz)) = (c1 ++ (cs' ++ d2)) ++ rest := by
      subst e1 e2
      rw [hsr, ← l1]
      have t1 : (c1 ++ (c2 ++ d2) ++ rest).take c1.length = c1 := by rw [List.append_assoc]; exact List.take_left
      have t2 : (c1 ++ (c2 ++ d2) ++ rest).drop (c1.length + r.size) = d2 ++ rest := by
        rw [← l2]
        have : c1 ++ (c2 ++ d2) ++ rest = (c1 ++ c2) ++ (d2 ++ rest) := by simp only [List.append_assoc]
        rw [this, ← List.length_append]
        exact List.drop_left
      rw [t1, t2]
      simp only [List.append_assoc]
    have hx' : fr.ev x = some (.pointer (some ⟨qb, i.toNat * sz, none⟩)) := hx
    refine WL.ys' (S' := St w0 G0 G ((key, some ⟨qb, .cells ((c1 ++ (cs' ++ d2)) ++ rest).toArray e (0, 0), 0⟩) :: L)) hg (fun a w ha hs => ?_) (k _ ?_)
    · have hb := (hs.loc key _ hid).1
      have hr := run_storeCells_at P qb (i.toNat * sz) e cs' 0 (cs ++ rest).toArray w hb (by
        simp only [List.size_toArray]
        rw [List.length_append, hcl, l3, ← hsr]
        have : (i.toNat + 1) * sz ≤ xs.length * sz := Nat.mul_le_mul_right _ hlt
        rw [Nat.add_mul] at this
        omega) (r.one hrep)
      simp only [Nat.add_zero] at hr
      rw [l3, ← hsr] at hr
      rw [hcells] at hr
      refine ⟨w.setRow qb ((c1 ++ (cs' ++ d2)) ++ rest).toArray, ?_, hs.upd hid ?_ (Nat.le_refl _) (fun k _ hk _ => absurd hk (Nat.not_lt_zero k)) (fun k hk => ?_) rfl rfl rfl rfl (by simp [World.setRow])⟩
      · simp [execOp, ha.ev hx', ha.ev hy, Instr.storeAt, Instr.sureAddr, storeVar, hval, run_sizeOf ht, l3, hsr, hr]
        rw [hsr] at hr
        simp [hr]
      · simp [World.setRow, Array.getElem?_modify, hb]
      · simp only [World.setRow, Array.getElem?_modify]
        rw [if_neg (fun e => hk e.symm)]
    · refine ⟨cap, c1 ++ (cs' ++ d2), rest, by simp, rfl, rfl, hnew, ?_, h6, by simpa using h7⟩
      rw [List.length_append, hnew.len, List.length_set, ← h5, List.length_append, hcl]

theorem run_append_T {t : TypeId} {z : Value} {bytes m c : Nat} {xs ys : List α} {v : Value} {p : Option Addr} {id : Nat} {tk : Option Ow} (ty : TypeId) (ht : P.underlying t = some (.slice e)) (hE : ElT P e z r.size bytes) (hzs : z.cells.size = r.size) (hby : bytes ≤ 100000)
    (hrow : RowR r e G v xs tk) (hid : L.get id = tk) (hx : SlR r G (.slice p m c) ys) (hsm : (xs ++ ys).length ≤ small)
    (w : World) (hs : St w0 G0 G L w) :
    ∃ v' tk' w', (Builtin.append_ #[t, t] ty #[v, .slice p m c]).run P w = .ok v' w' ∧ RowR r e G v' (xs ++ ys) tk' ∧ St w0 G0 G ((id, tk') :: L) w' := by
  obtain ⟨i, hi, hz, hsz, hbt⟩ := hE.parts
  obtain ⟨px, capx, ds, hx1, hx2, hx3, hx4, hx5, hx6⟩ := hx
  simp only [Value.slice.injEq] at hx1
  obtain ⟨rfl, rfl, rfl⟩ := hx1
  have hlx := hx5.len
  simp only [List.length_append, small] at hsm
  have hmaxL : xs.length + ys.length ≤ maxLen := by simp only [maxLen]; omega
  have hb1 : (xs.length + ys.length) * bytes ≤ 140737488355328 := by
    have : (xs.length + ys.length) * bytes ≤ 1000000000 * 100000 := Nat.mul_le_mul (by omega) hby
    omega
  by_cases hm : ys.length = 0
  · have hy : ys = [] := List.eq_nil_of_length_eq_zero hm
    subst hy
    simp only [List.length_nil, List.append_nil] at *
    refine ⟨v, tk, w, ?_, hrow, hs.weaken (Lo.sub_cons hid (Lo.sub_refl _))⟩
    cases tk with
    | none =>
      obtain ⟨rfl, q, rfl, _⟩ := hrow
      cases q with
      | none => cases p with
        | none => simp [Builtin.append_, run_underlying ht, sizeOf, typeInfo, hi, Builtin.lenOf, Builtin.firstCells]
        | some a => simp [Builtin.append_, run_underlying ht, sizeOf, typeInfo, hi, Builtin.lenOf, Builtin.firstCells, loadCells, loadCellsFrom]
      | some a' => cases p with
        | none => simp [Builtin.append_, run_underlying ht, sizeOf, typeInfo, hi, Builtin.lenOf, Builtin.firstCells, storeCells]
        | some a => simp [Builtin.append_, run_underlying ht, sizeOf, typeInfo, hi, Builtin.lenOf, Builtin.firstCells, storeCells, loadCells, loadCellsFrom]
    | some q =>
      obtain ⟨cap, cs, rest, rfl, _, _, _, _, _, hle⟩ := hrow
      cases p with
      | none => simp [Builtin.append_, run_underlying ht, sizeOf, typeInfo, hi, Builtin.lenOf, Builtin.firstCells, hle, storeCells]
      | some a => simp [Builtin.append_, run_underlying ht, sizeOf, typeInfo, hi, Builtin.lenOf, Builtin.firstCells, hle, storeCells, loadCells, loadCellsFrom]
  · have hp := hx4 (by omega)
    obtain ⟨pa, hpa⟩ := Option.isSome_iff_exists.1 hp
    subst hpa
    obtain ⟨sb, so, ss⟩ := pa
    have hss := hx3 _ rfl
    dsimp only at hss
    subst hss
    have hx6 : ∀ j u, ds[j]? = some u → G sb (so + j) = some u := hx6
    have hnews : ∀ j u, ds[j]? = some u → w.cell? ((⟨sb, so, none⟩ : Addr).add j) = some u := fun j u hu => by rw [add_none]; exact hs.imm _ _ _ (hx6 j u hu)
    have hone := hx5.one
    have hlx' : ds.length = ys.length * i.size := by rw [hsz]; exact hlx
    have grow : ∀ (pv : Option Addr) (cap : Nat) (cs : List Value), RepL r G cs xs → (Builtin.firstCells i.size xs.length (.slice pv xs.length cap)).run P w.drew = .ok cs.toArray w.drew → cap < xs.length + ys.length →
        ∃ v' tk' w', (Builtin.append_ #[t, t] ty #[.slice pv xs.length cap, .slice (some ⟨sb, so, none⟩) ys.length c]).run P w = .ok v' w' ∧ RowR r e G v' (xs ++ ys) tk' ∧ St w0 G0 G ((id, tk') :: L) w' := by
      intro pv cap cs hcs hold hg
      have hcap := grownCap_ge w (xs.length + ys.length) cap e
      have hmax := grownCap_le_maxLen w (xs.length + ys.length) cap e hmaxL
      have hsrc := Src.ofSlice (P := P) w (size := i.size) ht ⟨sb, so, none⟩ ys.length c ds hlx' hnews hone
      have hr := run_append_grow_src (P := P) w t t ty e i z ht hi hz pv xs.length cap cs hold _ ys.length ds hsrc hg (by omega) (growslice_fits hg (by rw [hbt]; exact hb1))
      have hsd : St w0 G0 G L w.drew := hs.drew
      have h3 := hsd.push id (.cells ((cs ++ ds).toArray ++ Builtin.zeroCells z.cells (grownCap w (xs.length + ys.length) cap e - (xs.length + ys.length))) e)
      have hlen : (cs ++ ds).length = (xs.length + ys.length) * r.size := by rw [List.length_append, hcs.len, hlx, Nat.add_mul]
      refine ⟨_, some ⟨w.drew.heap.size, .cells ((cs ++ ds).toArray ++ Builtin.zeroCells z.cells (grownCap w (xs.length + ys.length) cap e - (xs.length + ys.length))) e (0, 0), 0⟩, _, hr, ?_, h3⟩
      refine ⟨grownCap w (xs.length + ys.length) cap e, cs ++ ds, (Builtin.zeroCells z.cells (grownCap w (xs.length + ys.length) cap e - (xs.length + ys.length))).toList, by rw [List.length_append]; rfl, ?_, rfl, hcs.append hx5, ?_, hmax, by rw [List.length_append]; exact hcap⟩
      · dsimp only
        congr 1
        apply Array.ext'
        simp
      · have hzc : (Builtin.zeroCells z.cells (grownCap w (xs.length + ys.length) cap e - (xs.length + ys.length))).toList.length = (grownCap w (xs.length + ys.length) cap e - (xs.length + ys.length)) * r.size := by
          rw [Array.length_toList (xs := Builtin.zeroCells z.cells _), size_zeroCells, hzs]
        rw [List.length_append, hlen, hzc, ← Nat.add_mul]
        congr 1; omega
    cases tk with
    | none =>
      obtain ⟨rfl, q, rfl, hq⟩ := hrow
      refine grow q 0 [] rfl ?_ (by simp; omega)
      cases q with
      | none => exact run_firstCells_none _ _ _ _ _
      | some a => exact run_firstCells_some _ _ _ _ _ _ _ (by simp) (fun j u hu => by simp at hu)
    | some q =>
      obtain ⟨cap, cs, rest, rfl, h2, h3, h4, h5, h6, h7⟩ := hrow
      obtain ⟨qb, qo, qm⟩ := q
      dsimp only at h2 h3
      subst h2 h3
      have hblk := (hs.loc id _ hid).1
      dsimp only at hblk
      have hlv := h4.len
      by_cases hroom : xs.length + ys.length ≤ cap
      · have hfit : xs.length * i.size + ds.length ≤ (cs ++ rest).toArray.size := by
          rw [List.size_toArray, h5, hlx', hsz, ← Nat.add_mul]; exact Nat.mul_le_mul_right _ hroom
        have hr := run_append_room (P := P) w t ty e i ht hi qb xs.length cap (cs ++ rest).toArray hblk ⟨sb, so, none⟩ ys.length c ds hlx' hnews hone hroom hfit
        rw [hsz, ← hlv] at hr
        have e1 : (cs ++ rest).toArray.toList.take cs.length = cs := by simp
        have e2 : (cs ++ rest).toArray.toList.drop (cs.length + ds.length) = rest.drop ds.length := by simp
        rw [e1, e2] at hr
        refine ⟨_, some ⟨qb, .cells ((cs ++ ds) ++ rest.drop ds.length).toArray e (0, 0), 0⟩, _, hr, ?_, hs.upd hid (by simp [World.setRow, Array.getElem?_modify, hblk]) (Nat.le_refl _) (fun k _ hk _ => absurd hk (Nat.not_lt_zero k)) (fun k hk => ?_) rfl rfl rfl rfl (by simp [World.setRow])⟩
        · refine ⟨cap, cs ++ ds, rest.drop ds.length, by rw [List.length_append], rfl, rfl, h4.append hx5, ?_, h6, by rw [List.length_append]; exact hroom⟩
          rw [hsz] at hfit hlx'
          simp only [List.size_toArray] at hfit
          rw [List.length_append] at h5 hfit
          simp only [List.length_append, List.length_drop]
          omega
        · simp only [World.setRow, Array.getElem?_modify]
          rw [if_neg (fun e => hk e.symm)]
      · refine grow _ cap cs h4 (run_firstCells_some _ _ _ _ _ _ _ (by rw [hlv, hsz]) (fun j u hu => ?_)) (by omega)
        rw [add_none]
        have hb' : w.drew.heap[qb]? = some (.cells (cs ++ rest).toArray e (0, 0)) := hblk
        rw [cell_of_row w.drew qb (0 + j) _ e (0, 0) hb', Nat.zero_add, List.getElem?_toArray, List.getElem?_append_left (List.getElem?_eq_some_iff.1 hu).1]
        exact hu
theorem WL.appendT {t : TypeId} {z : Value} {s x : Operand} {bytes m c : Nat} {v : Value} {xs ys : List α} {p : Option Addr} {tk : Option Ow} (id : Nat) (hg : guardOK ops fr ⟨dst, .call ⟨.builtin .append, #[s, x], #[t, t]⟩, ty, pos, af, g⟩ true) (hd : dstOK N dst)
    (ht : P.underlying t = some (.slice e)) (hE : ElT P e z r.size bytes) (hzs : z.cells.size = r.size) (hby : bytes ≤ 100000) (hs : fr.ev s = some v) (hx : fr.ev x = some (.slice p m c)) (hv : RowR r e G v xs tk) (hid : L.get id = tk)
    (hy : SlR r G (.slice p m c) ys) (hsm : (xs ++ ys).length ≤ small)
    (k : ∀ p' cap' tk', RowR r e G (.slice p' (xs ++ ys).length cap') (xs ++ ys) tk' → WL P N ops Q l (putFr dst (.slice p' (xs ++ ys).length cap') fr) (St w0 G0 G ((id, tk') :: L))) :
    WL P N ops Q (⟨dst, .call ⟨.builtin .append, #[s, x], #[t, t]⟩, ty, pos, af, g⟩ :: l) fr (St w0 G0 G L) := by
  refine WL.yr (Φ := fun v' w => ∃ tk', RowR r e G v' (xs ++ ys) tk' ∧ St w0 G0 G ((id, tk') :: L) w) hg (fun a w ha hs' => ?_) hd (fun v a w ha ⟨tk', h2, h4⟩ => ?_)
  · obtain ⟨v', tk', w', hr, h2, h4⟩ := run_append_T (w0 := w0) (G0 := G0) ty ht hE hzs hby hv hid hy hsm w hs'
    have : (execOp a.eval ⟨dst, .call ⟨.builtin .append, #[s, x], #[t, t]⟩, ty, pos, af, g⟩).run P w = .ok (.value v') w' := by
      simp [execOp, resolve, invoke, builtin, ha.ev hs, ha.ev hx, hr]
    rw [this]
    exact ⟨tk', h2, h4⟩
  · obtain ⟨p', cap', rfl⟩ := h2.form
    exact k p' cap' tk' h2 a w ha h4
end
end Go.EL
/- Calls to which blocks are lent. No condition. -/
namespace Go.EL
open Go Go.RowKit Go.Proofs

theorem Hp.empty (w : World) : Hp (fun _ _ => none) [] w := ⟨(by intro _ _ _ h; cases h), (by intro _ _ h; simp [Lo.get] at h), (by intro _ _ _ _ _ h; simp [Lo.get] at h)⟩
section
variable {P : Program} {N : Nat} {Q : Post} {fr : Fr} {S : Asrt} {ops : Array Oper} {l : List Oper} {dst : Option Nat} {ty : TypeId} {pos : String} {af : Array Edge} {g : Option (Nat × Bool)}
variable {w0 : Bs} {G0 G : Mem} {L : Lo} {α : Type} {r : Rp α} {e : TypeId}

theorem Lo.mem_of_get : ∀ {L1 : Lo} {i : Nat} {x : Ow}, L1.get i = some x → i ∈ L1.map (·.1)
  | [], i, x, h => by simp [Lo.get] at h
  | p :: L1, i, x, h => by
    obtain ⟨k, q⟩ := p
    rw [Lo.get_cons] at h
    split at h
    · rename_i e; simp [e]
    · have := Lo.mem_of_get h; simp only [List.map_cons, List.mem_cons]; exact .inr this
/-- All marks of the list are at the start. -/
def Lo.zero (L : Lo) : Prop := ∀ p ∈ L, ∀ x, p.2 = some x → x.m = 0
theorem Lo.zero_get : ∀ {L : Lo} {i : Nat} {x : Ow}, L.zero → L.get i = some x → x.m = 0
  | [], i, x, _, h => by simp [Lo.get] at h
  | p :: L, i, x, hz, h => by
    obtain ⟨k, q⟩ := p
    rw [Lo.get_cons] at h
    split at h
    · exact hz (k, q) (by simp) x h
    · exact Lo.zero_get (L := L) (fun p hp => hz p (by simp [hp])) h
/-- The lent blocks come back as they were. -/
theorem YC.yrRO {o : Oper} {f : FuncId} {args args' : Array Value} {L1 : Lo} {pre : Mem → Prop} {post : Mem → Value → Prop} (h : YC P N o fr (St w0 G0 G L) f args') (sp : CtrL P f args L1 pre (fun G L' v => L' = L1 ∧ post G v)) (e : args' = args) (hp : pre G)
    (h1 : Lo.sub L1 L) (hsame : ∀ i, i ∈ L1.map (·.1) → L1.get i = L.get i) (hz : w0.L.zero) :
    YR P N o fr (St w0 G0 G L) (fun v w' => ∃ G', Mem.le G G' ∧ St w0 G0 G' L w' ∧ post G' v) := fun a w ha hs => by
  rw [h a w ha hs]
  subst e
  refine (sp w G (hs.hp h1) hp).mono fun e' w' ⟨r, G', L', q1, q2, q3, q4⟩ => ⟨r, q1, G', q2.le, ?_, q4⟩
  subst q3
  refine hs.ext (R := L.without (L'.map (·.1))) q2 h1 (fun i x hx => (Lo.get_without hx).1) (fun i x hx => ?_) (fun i x y hi _ z hz' => ?_) (fun i x hx => ?_)
  · cases hg : L'.get i with
    | none => rfl
    | some y => exact absurd (Lo.mem_of_get hg) (Lo.get_without hx).2
  · rw [Lo.zero_get hz hz']; exact Nat.zero_le _
  · by_cases hi : i ∈ L'.map (·.1)
    · left; rw [hsame i hi]; exact hx
    · right
      have : ∀ (ks : List Nat), i ∉ ks → (L.without ks).get i = L.get i := by
        intro ks
        induction ks with
        | nil => intro _; rfl
        | cons k ks ih =>
          intro hk
          simp only [List.mem_cons, not_or] at hk
          simp only [Lo.without, List.map_cons, List.cons_append]
          rw [Lo.get_cons, if_neg (fun e => hk.1 e.symm)]
          exact ih hk.2
      rw [this _ hi]; exact hx
theorem WL.callRO {op : Op} {f : FuncId} {args args' : Array Value} {L1 : Lo} {pre : Mem → Prop} {post : Mem → Value → Prop} (hg : guardOK ops fr ⟨dst, op, ty, pos, af, g⟩ true) (hd : dstOK N dst) (h : YC P N ⟨dst, op, ty, pos, af, g⟩ fr (St w0 G0 G L) f args')
    (sp : CtrL P f args L1 pre (fun G L' v => L' = L1 ∧ post G v)) (e : args' = args) (hp : pre G) (h1 : Lo.sub L1 L) (hsame : ∀ i, i ∈ L1.map (·.1) → L1.get i = L.get i) (hz : w0.L.zero)
    (k : ∀ v G', Mem.le G G' → post G' v → WL P N ops Q l (putFr dst v fr) (St w0 G0 G' L)) : WL P N ops Q (⟨dst, op, ty, pos, af, g⟩ :: l) fr (St w0 G0 G L) :=
  WL.yr hg (h.yrRO sp e hp h1 hsame hz) hd (fun v a w ha ⟨G', q1, q2, q3⟩ => k v G' q1 q3 a w ha q2)
/-- .. and the call reads a row that nobody else knows. -/
theorem WL.peekRO {op : Op} {f : FuncId} {args args' : Array Value} {L1 : Lo} {pre : Mem → Prop} {v c : Value} {xs : List α} {tk : Option Ow} (key : Nat) (hrow : RowR r e G v xs tk) (hid : L.get key = tk) (h0 : w0.L.get key = none) (hg : guardOK ops fr ⟨dst, op, ty, pos, af, g⟩ true) (hd : dstOK N dst)
    (h : ∀ S, YC P N ⟨dst, op, ty, pos, af, g⟩ fr S f args') (sp : CtrL P f args L1 pre (fun _ L' v => L' = L1 ∧ v = c)) (e' : args' = args) (hp : ∀ G', Mem.le G G' → SlR r G' v xs → pre G')
    (h1 : Lo.sub L1 L) (hsame : ∀ i, i ∈ L1.map (·.1) → L1.get i = L.get i ∧ key ≠ i) (hz : w0.L.zero)
    (k : WL P N ops Q l (putFr dst c fr) (St w0 G0 G L)) : WL P N ops Q (⟨dst, op, ty, pos, af, g⟩ :: l) fr (St w0 G0 G L) := by
  refine WL.peek key L hrow hid h0 hg hd (fun tk' G' hle hsl a w ha hs => ?_) (WL.conseq (fun w hs => hs.weaken (fun i x hx => ?_)) k)
  · exact (YC.yrRO (h _) sp e' (hp G' hle hsl) (fun i x hx => by
      have hi := Lo.mem_of_get hx
      rw [Lo.get_cons, if_neg (hsame i hi).2]
      exact h1 i x hx) (fun i hi => by rw [Lo.get_cons, if_neg (hsame i hi).2]; exact (hsame i hi).1) hz a w ha hs).mono fun u w' ⟨G'', q1, q2, q3⟩ => ⟨q3, G'', q1, q2⟩
  · rw [Lo.get_cons]
    split
    · rename_i e2; subst e2; rw [← hid]; exact hx
    · exact hx
/-- A call that turns what it is lent; the marks of what was lent to us lie at the start. -/
theorem WL.callT {op : Op} {f : FuncId} {args args' : Array Value} {L1 : Lo} {pre : Mem → Prop} {post : Mem → Lo → Value → Prop} (hg : guardOK ops fr ⟨dst, op, ty, pos, af, g⟩ true) (hd : dstOK N dst) (h : YC P N ⟨dst, op, ty, pos, af, g⟩ fr (St w0 G0 G L) f args')
    (sp : CtrL P f args L1 pre post) (e : args' = args) (hp : pre G) (h1 : Lo.sub L1 L) (hz : w0.L.zero)
    (k : ∀ v G' L', Mem.le G G' → post G' L' v → WL P N ops Q l (putFr dst v fr) (St w0 G0 G' (L' ++ L.without (L1.map (·.1))))) : WL P N ops Q (⟨dst, op, ty, pos, af, g⟩ :: l) fr (St w0 G0 G L) := by
  refine WL.yr (Φ := fun v w' => ∃ G' L', Mem.le G G' ∧ St w0 G0 G' (L' ++ L.without (L1.map (·.1))) w' ∧ post G' L' v) hg (fun a w ha hs => ?_) hd (fun v a w ha ⟨G', L', q1, q2, q3⟩ => k v G' L' q1 q3 a w ha q2)
  rw [h a w ha hs]
  subst e
  refine (sp w G (hs.hp h1) hp).mono fun e' w' ⟨r, G', L', q1, q2, q3⟩ => ⟨r, q1, G', L', q2.le, hs.ext (R := L.without (L1.map (·.1))) q2 h1 (fun i x hx => (Lo.get_without hx).1) (fun i x hx => ?_) (fun i x y hi _ z hz' => ?_) (fun i x hx => Lo.get_append _ _ i x hx), q3⟩
  · cases hg : L1.get i with
    | none => rfl
    | some y => exact absurd (Lo.mem_of_get hg) (Lo.get_without hx).2
  · rw [Lo.zero_get hz hz']; exact Nat.zero_le _
theorem RowR.zero {v : Value} {xs : List α} {tk : Option Ow} {x : Ow} (h : RowR r e G v xs tk) (hx : tk = some x) : x.m = 0 := by
  subst hx
  obtain ⟨_, _, _, _, _, h, _⟩ := h
  exact h
theorem Ctr.ro {f : FuncId} {args : Array Value} {pre : Mem → Prop} {post : Mem → Value → Prop} (h : Ctr P f args pre post) : CtrL P f args [] pre (fun G L' v => L' = [] ∧ post G v) := fun w G hi hp =>
  (h w G hi hp).mono fun e' w' ⟨r, G', L', q1, q2, q3⟩ => ⟨r, G', [], q1, q2.nil, rfl, q3⟩
theorem SlR.row0 {p : Option Addr} (h : SlR r G (.slice p 0 0) ([] : List α)) : RowR r e G (.slice p 0 0) [] none := by
  obtain ⟨p', cap, cs, h1, _, h2, _⟩ := h
  cases h1
  exact ⟨rfl, p, rfl, h2⟩
theorem SlR.eqv {p : Option Addr} {n cap : Nat} {xs : List α} (h : SlR r G (.slice p n cap) xs) : Value.slice p n cap = .slice p xs.length cap := by
  obtain ⟨p', cap', cs, h1, _⟩ := h
  cases h1; rfl
theorem SlR.std {p : Option Addr} {n cap : Nat} {xs : List α} (h : SlR r G (.slice p n cap) xs) : SlR r G (.slice p xs.length cap) xs := by rw [← h.eqv]; exact h
theorem RowR.eqv {p : Option Addr} {n cap : Nat} {xs : List α} {tk : Option Ow} (h : RowR r e G (.slice p n cap) xs tk) : Value.slice p n cap = .slice p xs.length cap := by
  obtain ⟨p', cap', h1⟩ := h.form
  cases h1; rfl
theorem RowR.std {p : Option Addr} {n cap : Nat} {xs : List α} {tk : Option Ow} (h : RowR r e G (.slice p n cap) xs tk) : RowR r e G (.slice p xs.length cap) xs tk := by rw [← h.eqv]; exact h
/-- A slice literal that stays the call's own. -/
theorem WL.litT {t : TypeId} {len : Nat} {parts : Array (Nat × Operand)} {vs : Array (Nat × Value)} {cs : List Value} (xs : List α) (key : Nat) (hg : guardOK ops fr ⟨dst, .buildSlice t len parts, ty, pos, af, g⟩ true) (hd : dstOK N dst)
    (hps : fr.evs (parts.toList.map (·.2)) = some (vs.toList.map (·.2))) (hix : parts.toList.map (·.1) = vs.toList.map (·.1)) (hlen : xs.length = len) (hsm : len ≤ small)
    (h : ∀ w, (Instr.buildSlice t len vs).run P w = .ok (.slice (some ⟨w.heap.size, 0, none⟩) len len) (w.alloc (.cells cs.toArray e))) (hrep : RepL r G cs xs)
    (k : ∀ p tk, RowR r e G (.slice p len len) xs tk → WL P N ops Q l (putFr dst (.slice p len len) fr) (St w0 G0 G ((key, tk) :: L))) : WL P N ops Q (⟨dst, .buildSlice t len parts, ty, pos, af, g⟩ :: l) fr (St w0 G0 G L) := by
  refine WL.yr (Φ := fun v w => ∃ p tk, v = .slice p len len ∧ RowR r e G (.slice p len len) xs tk ∧ St w0 G0 G ((key, tk) :: L) w) hg (fun a w ha hs => ?_) hd (fun v a w ha ⟨p, tk, h1, h2, h3⟩ => by subst h1; exact k p tk h2 a w ha h3)
  have h1 := ha.evs _ _ hps
  have h2 : (parts.map fun p => (p.1, a.eval p.2)) = vs := by
    apply Array.ext'
    simp only [Array.toList_map]
    have hl : parts.toList.length = vs.toList.length := by have := congrArg List.length hix; simpa using this
    generalize parts.toList = ps at *
    generalize vs.toList = us at *
    clear h hps
    induction ps generalizing us with
    | nil => cases us <;> simp_all
    | cons p ps ih =>
      cases us with
      | nil => simp at hl
      | cons q us =>
        simp only [List.map_cons, List.cons.injEq] at hix h1 ⊢
        exact ⟨Prod.ext hix.1 h1.1, ih us hix.2 h1.2 (by simpa using hl)⟩
  have h3 : (parts.map fun (i, x) => (i, a.eval x)) = vs := h2
  have : (execOp a.eval ⟨dst, .buildSlice t len parts, ty, pos, af, g⟩).run P w = .ok (.value (.slice (some ⟨w.heap.size, 0, none⟩) len len)) (w.alloc (.cells cs.toArray e)) := by
    simp only [execOp, h3]
    simp [h w]
  rw [this]
  have hcs := hrep.len
  refine ⟨_, some ⟨w.heap.size, .cells cs.toArray e (0, 0), 0⟩, rfl, ⟨len, cs, [], by rw [hlen], by simp, rfl, hrep, by simp [hcs, hlen], by simp only [small, maxLen] at *; omega, by omega⟩, hs.push key (.cells cs.toArray e)⟩
/-- In a region that draws: a call that lays memory. -/
theorem Chain.callU {fs : List Bool} {l : List Oper} {det : Fr} {und : Und} {d : Nat} {op : Op} {f : FuncId} {args args' : Array Value} {pre : Mem → Prop} {post : Mem → Value → Prop} (hg : ∀ u, guardOK ops (undFr und u ++ (det ++ fr)) ⟨some d, op, ty, pos, af, g⟩ true) (h : ∀ u S, YC P N ⟨some d, op, ty, pos, af, g⟩ (undFr und u ++ (det ++ fr)) S f args') (sp : Ctr P f args pre post) (e : args' = args)
    (hp : ∀ G', Mem.le G G' → pre G') (hm : ∀ v G₁ G₂, Mem.le G₁ G₂ → post G₁ v → post G₂ v) (k : Chain P N Q fr w0 G0 G L ops fs l det ((d, fun v g => post g.m v) :: und)) : Chain P N Q fr w0 G0 G L ops (false :: fs) (⟨some d, op, ty, pos, af, g⟩ :: l) det und :=
  Chain.cund d _ rfl (fun v _ _ h => hm v _ _ h.1) (fun u G' hle _ => OpOK.call (hg u) (h u _) sp e (hp G'.m hle.1)) k
theorem Chain.y0U {fs : List Bool} {l : List Oper} {det : Fr} {und : Und} {o : Oper} {c : Value} (hg : ∀ u, guardOK ops (undFr und u ++ (det ++ fr)) o true) (h : ∀ u G', Mem.le G G' → Y0 P N o (undFr und u ++ (det ++ fr)) (St w0 G0 G' L) c) (k : Chain P N Q fr w0 G0 G L ops fs l (putFr o.dst c det) und) :
    Chain P N Q fr w0 G0 G L ops (false :: fs) (o :: l) det und := .inl ⟨c, fun u G' hle _ => OpOK.y0 (hg u) (h u G'.m hle.1), k⟩
theorem Chain.floatU {fs : List Bool} {l : List Oper} {det : Fr} {und : Und} {o : Oper} {c : Value} (hg : ∀ u, guardOK ops (undFr und u ++ (det ++ fr)) o true) (h : ∀ u, Y0 P N o (undFr und u ++ (det ++ fr)) (fun _ => True) c) (k : Chain P N Q fr w0 G0 G L ops fs l (putFr o.dst c det) und) :
    Chain P N Q fr w0 G0 G L ops (true :: fs) (o :: l) det und := ⟨c, fun u => ⟨hg u, h u⟩, k⟩
theorem Chain.skipU {fs : List Bool} {l : List Oper} {det : Fr} {und : Und} {o : Oper} (hg : ∀ u, guardOK ops (undFr und u ++ (det ++ fr)) o false) (k : Chain P N Q fr w0 G0 G L ops fs l (putFr o.dst undef det) und) : Chain P N Q fr w0 G0 G L ops (false :: fs) (o :: l) det und := .inl ⟨undef, fun u _ _ _ => OpOK.skip (hg u), k⟩
/-- .. a call whose arguments are such values; what it yields is determined. -/
theorem Chain.callD {fs : List Bool} {l : List Oper} {det : Fr} {und : Und} {o : Oper} {f : FuncId} {c : Value} (hg : ∀ u, guardOK ops (undFr und u ++ (det ++ fr)) o true)
    (h : ∀ u (G' : Gx), Mem.le G G'.m → undLook ops o und u G' → ∃ args args' pre, (∀ S, YC P N o (undFr und u ++ (det ++ fr)) S f args') ∧ Ctr P f args pre (fun _ r => r = c) ∧ args' = args ∧ pre G'.m) (k : Chain P N Q fr w0 G0 G L ops fs l (putFr o.dst c det) und) :
    Chain P N Q fr w0 G0 G L ops (false :: fs) (o :: l) det und := .inl ⟨c, fun u G' hle hu => by
      obtain ⟨args, args', pre, h1, h2, h3, h4⟩ := h u G' hle.1 hu
      exact OpOK.call0 (hg u) (h1 _) h2 h3 h4, k⟩
theorem Chain.tailU1 {l : List Oper} {det : Fr} {d : Nat} {post : Mem → Value → Prop} (k : ∀ v G', Mem.le G G' → post G' v → WL P N ops (NX Q) l ((d, v) :: (det ++ fr)) (St w0 G0 G' L)) : Chain P N Q fr w0 G0 G L ops [] l det [(d, fun v g => post g.m v)] := fun u g hle hu a w ha hs =>
  k (u d) g.m hle.1 hu.1 a w ha hs.st
theorem Chain.tailU2 {l : List Oper} {det : Fr} {d d' : Nat} {post post' : Mem → Value → Prop} (k : ∀ v v' G', Mem.le G G' → post G' v → post' G' v' → WL P N ops (NX Q) l ((d, v) :: (d', v') :: (det ++ fr)) (St w0 G0 G' L)) : Chain P N Q fr w0 G0 G L ops [] l det [(d, fun v g => post g.m v), (d', fun v g => post' g.m v)] := fun u g hle hu a w ha hs =>
  k (u d) (u d') g.m hle.1 hu.1 hu.2.1 a w ha hs.st
theorem Chain.tailU3 {l : List Oper} {det : Fr} {d d' d'' : Nat} {post post' post'' : Mem → Value → Prop} (k : ∀ v v' v'' G', Mem.le G G' → post G' v → post' G' v' → post'' G' v'' → WL P N ops (NX Q) l ((d, v) :: (d', v') :: (d'', v'') :: (det ++ fr)) (St w0 G0 G' L)) : Chain P N Q fr w0 G0 G L ops [] l det [(d, fun v g => post g.m v), (d', fun v g => post' g.m v), (d'', fun v g => post'' g.m v)] := fun u g hle hu a w ha hs =>
  k (u d) (u d') (u d'') g.m hle.1 hu.1 hu.2.1 hu.2.2.1 a w ha hs.st
end
end Go.EL
/- slices.SortFunc's contract at rows of aggregates that lie in one way. The conditions stand in each statement. -/
namespace Go.EL
open Go Go.RowKit

/-- The sorted list. -/
def sortBy {α : Type} (cmp : α → α → Int) (l : List α) : List α := l.mergeSort fun x y => !(Go.Proofs.ltOf cmp) y x
theorem sortBy_perm {α : Type} (cmp : α → α → Int) (l : List α) : (sortBy cmp l).Perm l := List.mergeSort_perm _ _
theorem sortBy_length {α : Type} (cmp : α → α → Int) (l : List α) : (sortBy cmp l).length = l.length := (sortBy_perm cmp l).length_eq

section
variable {α : Type} {enc : α → List Value} {sz : Nat}
theorem flatE_length (hl : ∀ x, (enc x).length = sz) (l : List α) : (l.flatMap enc).length = l.length * sz := by
  induction l with
  | nil => simp
  | cons x l ih => simp only [List.flatMap_cons, List.length_append, hl, ih, List.length_cons, Nat.add_mul]; omega
theorem flatE_get (hl : ∀ x, (enc x).length = sz) (l : List α) (i : Nat) (hi : i < l.length) (j : Nat) (hj : j < sz) : (l.flatMap enc)[i * sz + j]? = (enc l[i])[j]? := by
  induction l generalizing i with
  | nil => simp at hi
  | cons x l ih =>
    cases i with
    | zero => simp only [Nat.zero_mul, Nat.zero_add, List.flatMap_cons, List.getElem_cons_zero]; rw [List.getElem?_append_left (by rw [hl]; exact hj)]
    | succ i =>
      simp only [List.flatMap_cons, List.getElem_cons_succ]
      rw [List.getElem?_append_right (by rw [hl, Nat.add_mul]; omega), hl, show (i + 1) * sz + j - sz = i * sz + j by rw [Nat.add_mul]; omega]
      exact ih i (by simpa using hi)
theorem flatK_flatE [Inhabited α] (hl : ∀ x, (enc x).length = sz) (h0 : 0 < sz) (l : List α) : Go.Sort.flatK enc sz l.toArray = (l.flatMap enc).toArray := by
  apply Array.ext
  · simp only [Go.Sort.size_flatK, List.size_toArray, flatE_length hl]
  · intro i h1 h2
    simp only [Go.Sort.size_flatK, List.size_toArray] at h1
    have hi : i / sz < l.length := by rw [Nat.div_lt_iff_lt_mul h0]; exact h1
    have hj : i % sz < sz := Nat.mod_lt _ h0
    have hf := flatE_get hl l (i / sz) hi (i % sz) hj
    rw [show i / sz * sz + i % sz = i by rw [Nat.mul_comm]; exact Nat.div_add_mod i sz] at hf
    have hg := Go.Sort.get_flatK enc sz l.toArray i (by simpa using h1)
    rw [getElem!_pos _ i (by simpa using h1)] at hg
    rw [hg]
    have e1 : l.toArray[i / sz]! = l[i / sz] := by rw [getElem!_pos _ _ (by simpa using hi)]; simp
    rw [e1, getElem!_pos _ _ (by rw [hl]; exact hj)]
    have h2' : i < (l.flatMap enc).length := by simpa using h2
    have hj' : i % sz < (enc l[i / sz]).length := by rw [hl]; exact hj
    rw [List.getElem?_eq_getElem h2', List.getElem?_eq_getElem hj'] at hf
    simp only [Option.some.injEq] at hf
    simpa using hf.symm
theorem RepL.flatE {r : Rp α} {G : Mem} (hr : ∀ G cs x, r.rep G cs x ↔ cs = enc x) : ∀ {l : List α} {cs : List Value}, RepL r G cs l ↔ cs = l.flatMap enc
  | [], cs => by simp [RepL]
  | x :: l, cs => by
    simp only [RepL, List.flatMap_cons]
    constructor
    · rintro ⟨c, d, rfl, h1, h2⟩
      rw [(hr G c x).1 h1, (RepL.flatE hr).1 h2]
    · rintro rfl
      exact ⟨_, _, rfl, (hr G _ x).2 rfl, (RepL.flatE hr).2 rfl⟩
end

theorem cells_grown {w w' : World} (h1 : w'.os = w.os) (h2 : w'.tape = w.tape) (h3 : w'.output = w.output) (h4 : w.drawn ≤ w'.drawn) (h5 : w.heap.size ≤ w'.heap.size) (h6 : ∀ k, k < w.heap.size → w'.heap[k]? = w.heap[k]?) :
    ∃ q os, w' = Go.Sort.grow (w.drewN q) os := by
  refine ⟨w'.drawn - w.drawn, w'.heap.extract w.heap.size w'.heap.size, ?_⟩
  obtain ⟨hp, tp, dr, o, ou⟩ := w'
  simp only at h1 h2 h3 h4 h5 h6
  subst h1 h2 h3
  simp only [Go.Sort.grow, World.drewN]
  congr 1
  · apply Array.ext_getElem?
    intro k
    rw [Array.getElem?_append]
    split
    · rename_i hk; exact h6 k hk
    · rename_i hk
      rw [Array.getElem?_extract]
      split
      · congr 1; omega
      · rw [Array.getElem?_eq_none]; omega
  · omega

variable {P : Program} {ρ : Go.Shelf.Ren}
/-- slices.SortFunc under a comparison that tells all elements apart: the row's elements, sorted. -/
theorem sortFunc {α : Type} [Inhabited α] {enc : α → List Value} {sz : Nat} (hl : ∀ x, (enc x).length = sz) (h0 : 0 < sz) (hone : ∀ x, ∀ v ∈ enc x, v.oneCell' = true) {r : Rp α} (hr : ∀ G cs x, r.rep G cs x ↔ cs = enc x) (hrz : r.size = sz)
    {cmp : α → α → Int} (swo : Go.Sort.SWO (Go.Proofs.ltOf cmp)) (tot : ∀ x y, Go.Proofs.ltOf cmp x y = false → Go.Proofs.ltOf cmp y x = false → x = y)
    (S : Go.Proofs.SlLaysF0.n6 P ρ) {f g : Nat} (hf : ρ.f 6 = f) (aE : ∀ w, (isAgg (ρ.t 24)).run P w = .ok true w) (zE : ∀ w, (Go.sizeOf (ρ.t 24)).run P w = .ok sz w)
    (hg : ∀ x y : α, Ctr P g #[.agg (enc x).toArray, .agg (enc y).toArray] (fun _ => True) (fun _ r => r = .int .i64 (cmp x y))) (eg : ∀ args w, (callFunc g args).run P w = .ok (.enter g args) w)
    (e : TypeId) (p : Option Addr) (n c : Nat) (l : List α) (tk : Option Ow) (hlen : l.length ≤ 1000000000) :
    CtrL P f #[.slice p n c, .func (.func g) #[] #[]] [(5000, tk)] (fun G => RowR r e G (.slice p n c) l tk) (fun G L v => ∃ tk', L = [(5000, tk')] ∧ v = .tuple #[] ∧ RowR r e G (.slice p n c) (sortBy cmp l) tk') := by
  subst hf
  intro w G hi hrow
  cases tk with
  | none =>
    obtain ⟨rfl, q, hq, hq2⟩ := hrow
    cases hq
    refine (Go.Proofs.AnyF.slices_SortFunc_none S p 0 _ w).mono ?_
    rintro en w' ⟨rfl, rfl⟩
    exact ⟨_, G, [(5000, none)], rfl, ⟨rfl, rfl, rfl, Nat.le_refl _, Nat.le_refl _, fun _ _ _ => rfl, Mem.le_refl _, hi.imm, fun _ _ _ h => .inl h, fun i x hx => by rw [Lo.get_cons] at hx; split at hx <;> simp [Lo.get] at hx, fun i j x y _ hx => by rw [Lo.get_cons] at hx; split at hx <;> simp [Lo.get] at hx⟩, none, rfl, rfl, by simp [sortBy], p, rfl, hq2⟩
  | some y =>
    obtain ⟨cap, cs, rest, h1, h2, h3, h4, h5, h6, h7⟩ := hrow
    obtain ⟨b, o, m⟩ := y
    dsimp only at h1 h2 h3
    subst h2 h3
    cases h1
    have hcs := (RepL.flatE hr).1 h4
    subst hcs
    have hget : Lo.get [(5000, some ⟨b, Obj.cells (l.flatMap enc ++ rest).toArray e (0, 0), 0⟩)] 5000 = some ⟨b, .cells (l.flatMap enc ++ rest).toArray e (0, 0), 0⟩ := by simp [Lo.get]
    obtain ⟨hb, hGb⟩ := hi.loc 5000 _ hget
    dsimp only at hb hGb
    have hbs : b < w.heap.size := (Array.getElem?_eq_some_iff.1 hb).1
    have hc : Go.Proofs.CmpLays P g #[] enc sz cmp b 0 l.toArray.size w := by
      intro m os dk _ x y
      refine (hg x y _ (fun _ _ => none) (Hp.empty _) trivial).mono ?_
      rintro en w' ⟨r, G', L', he, hx, rfl⟩
      exact ⟨he, cells_grown hx.os hx.tape hx.output hx.drawn hx.size fun k hk => hx.block k hk (fun _ _ h => by simp [Lo.get] at h)⟩
    have hH : Go.Sort.HoldsK enc sz w b 0 l.toArray := by
      unfold Go.Sort.HoldsK
      rw [flatK_flatE hl h0]
      intro j hj
      simp only [List.size_toArray] at hj
      have : (l.flatMap enc)[j]? = some (l.flatMap enc)[j] := List.getElem?_eq_getElem hj
      constructor
      · simp only [World.cell?, hb, Nat.zero_add, Option.isSome_none, Bool.false_eq_true, if_false, List.getElem?_toArray]
        rw [List.getElem?_append_left hj, this]
        rw [getElem!_pos _ _ (by simpa using hj)]; simp
      · simp [World.frozen?, hb]
    have hS := Go.Proofs.AnyQ.slices_SortFunc_total S sz aE zE enc hl hone cmp swo g #[] b 0 c l.toArray w eg hc hH hbs (by simp; omega) tot
    refine Calls.mono (by simpa using hS) ?_
    rintro en w' ⟨rfl, n, os, hw⟩
    have hw' : w' = Go.Sort.grow (Go.Sort.putRow id (Go.Sort.ahead w n) b 0 ((sortBy cmp l).flatMap enc).toArray) os := by
      rw [hw]; simp only [Go.Proofs.sortWorldK, Go.Sort.putRowK]; rw [flatK_flatE hl h0]; rfl
    have hother : ∀ k, k < w.heap.size → k ≠ b → w'.heap[k]? = w.heap[k]? := by
      intro k hk hne
      rw [hw']
      simp only [Go.Sort.grow, Go.Sort.putRow, Go.Sort.mapBlock, Go.Sort.ahead]
      rw [Array.getElem?_append_left (by simpa using hk), Array.getElem?_modify, if_neg (fun e => hne e.symm)]
    have hfl : ((sortBy cmp l).flatMap enc).length = (l.flatMap enc).length := by rw [flatE_length hl, flatE_length hl, sortBy_length]
    have hrow : w'.heap[b]? = some (.cells ((sortBy cmp l).flatMap enc ++ rest).toArray e (0, 0)) := by
      rw [hw']
      simp only [Go.Sort.grow, Go.Sort.putRow, Go.Sort.mapBlock, Go.Sort.ahead]
      rw [Array.getElem?_append_left (by simpa using hbs), Array.getElem?_modify, if_pos rfl, hb]
      simp only [Option.map_some, Go.Sort.onCells, Option.some.injEq, Obj.cells.injEq, and_true]
      apply Array.ext_getElem?
      intro k
      simp only [Go.Sort.putCells, Array.getElem?_mapIdx, List.getElem?_toArray, Nat.zero_le, true_and, Nat.zero_add, Nat.sub_zero, List.size_toArray, id]
      by_cases hk : k < (l.flatMap enc).length
      · rw [List.getElem?_append_left hk, List.getElem?_append_left (by omega), List.getElem?_eq_getElem hk, List.getElem?_eq_getElem (by omega : k < ((sortBy cmp l).flatMap enc).length)]
        simp only [Option.map_some, if_pos (show k < ((sortBy cmp l).flatMap enc).length by omega)]
        rw [getElem!_pos _ _ (by simp only [List.size_toArray]; omega)]; simp
      · rw [List.getElem?_append_right (by omega), List.getElem?_append_right (by omega), hfl]
        cases rest[k - (l.flatMap enc).length]? with
        | none => rfl
        | some v => simp only [Option.map_some, if_neg hk]
    have hsz : w.heap.size ≤ w'.heap.size := by
      rw [hw']; simp [Go.Sort.grow, Go.Sort.putRow, Go.Sort.mapBlock, Go.Sort.ahead]
    have one : ∀ j x, Lo.get [(5000, some (⟨b, Obj.cells ((sortBy cmp l).flatMap enc ++ rest).toArray e (0, 0), 0⟩ : Ow))] j = some x → x = ⟨b, Obj.cells ((sortBy cmp l).flatMap enc ++ rest).toArray e (0, 0), 0⟩ ∧ 5000 = j := by
      intro j x hx
      rw [Lo.get_cons] at hx
      split at hx
      · rename_i e'; cases hx; exact ⟨rfl, e'⟩
      · simp [Lo.get] at hx
    refine ⟨_, G, [(5000, some ⟨b, .cells ((sortBy cmp l).flatMap enc ++ rest).toArray e (0, 0), 0⟩)], rfl, ⟨by rw [hw']; rfl, by rw [hw']; rfl, by rw [hw']; rfl, by rw [hw']; simp [Go.Sort.grow, Go.Sort.putRow, Go.Sort.mapBlock, Go.Sort.ahead], hsz, ?_, Mem.le_refl _, ?_, fun _ _ _ h => .inl h, ?_, ?_⟩, _, rfl, rfl, ?_⟩
    · intro k hk hn
      exact hother k hk fun e => by subst e; exact hn 5000 _ hget rfl
    · intro k o v hv
      have hc := hi.imm k o v hv
      have hne : k ≠ b := fun e => by subst e; rw [hGb o (Nat.zero_le _)] at hv; cases hv
      have hk : k < w.heap.size := World.block_lt_of_cell? w _ hc
      simp only [World.cell?, hother k hk hne] at hc ⊢
      exact hc
    · intro j x hj
      obtain ⟨rfl, rfl⟩ := one j x hj
      exact ⟨hrow, .inl ⟨_, hget, rfl⟩, hGb⟩
    · intro j k x y hne h1 h2
      exact absurd ((one j x h1).2.symm.trans (one k y h2).2) hne
    · refine ⟨c, (sortBy cmp l).flatMap enc, rest, by rw [sortBy_length], rfl, rfl, (RepL.flatE hr).2 rfl, ?_, h6, by rw [sortBy_length]; exact h7⟩
      rw [List.length_append, hfl, ← List.length_append]; exact h5
end Go.EL
/- Maps of the call's own, as lists of keys and values. The conditions stand in each statement. -/
namespace Go.EL
open Go Go.RowKit Go.Proofs Go.MapKept

/-- How keys lie. -/
structure Ky (P : Program) (kt : TypeId) (K : Type) where
  enc : K → Value
  ok : K → Prop
  inj : ∀ {x y}, enc x = enc y → x = y
  lit : ∀ {x}, ok x → ∃ l, keyOf P kt (enc x) = some l
  keyed : Go.Maps.Keyed P kt

section
variable {K V : Type} [DecidableEq K]
/-- A list of keys and values, with one more: at its old place, or at the end. -/
def mput : List (K × V) → K → V → List (K × V)
  | [], k, x => [(k, x)]
  | p :: D, k, x => if p.1 = k then (k, x) :: D else p :: mput D k x
def mget : List (K × V) → K → Option V
  | [], _ => none
  | p :: D, k => if p.1 = k then some p.2 else mget D k
theorem mput_new : ∀ {D : List (K × V)} {k : K} {x : V}, (∀ p ∈ D, p.1 ≠ k) → mput D k x = D ++ [(k, x)]
  | [], _, _, _ => rfl
  | p :: D, k, x, h => by
    simp only [mput, if_neg (h p (by simp)), List.cons_append]
    rw [mput_new (fun q hq => h q (by simp [hq]))]
theorem mget_new : ∀ {D : List (K × V)} {k : K}, (∀ p ∈ D, p.1 ≠ k) → mget D k = none
  | [], _, _ => rfl
  | p :: D, k, h => by
    simp only [mget, if_neg (h p (by simp))]
    exact mget_new (fun q hq => h q (by simp [hq]))
end

section
variable {K V : Type}
def MapL (enc : K → Value) (Rv : K → Value → V → Prop) : List MapEntry → List (K × V) → Prop
  | [], [] => True
  | en :: es, p :: D => en.key = enc p.1 ∧ Rv p.1 en.val p.2 ∧ MapL enc Rv es D
  | _, _ => False
variable {enc : K → Value} {Rv Rv' : K → Value → V → Prop}
theorem MapL.length : ∀ {es : List MapEntry} {D : List (K × V)}, MapL enc Rv es D → es.length = D.length
  | [], [], _ => rfl
  | _ :: _, _ :: _, h => by simp only [List.length_cons]; rw [MapL.length h.2.2]
  | [], _ :: _, h => by cases h
  | _ :: _, [], h => by cases h
theorem MapL.imp : ∀ {es : List MapEntry} {D : List (K × V)}, MapL enc Rv es D → (∀ p ∈ D, ∀ v, Rv p.1 v p.2 → Rv' p.1 v p.2) → MapL enc Rv' es D
  | [], [], _, _ => trivial
  | _ :: _, p :: _, h, hi => ⟨h.1, hi p (by simp) _ h.2.1, MapL.imp h.2.2 (fun q hq => hi q (by simp [hq]))⟩
  | [], _ :: _, h, _ => by cases h
  | _ :: _, [], h, _ => by cases h
theorem MapL.key : ∀ {es : List MapEntry} {D : List (K × V)}, MapL enc Rv es D → ∀ en ∈ es, ∃ p ∈ D, en.key = enc p.1 ∧ Rv p.1 en.val p.2
  | [], [], _, en, h => by cases h
  | e :: _, p :: _, h, en, hen => by
    rcases List.mem_cons.1 hen with rfl | hen
    · exact ⟨p, by simp, h.1, h.2.1⟩
    · obtain ⟨q, hq, r⟩ := MapL.key h.2.2 en hen
      exact ⟨q, by simp [hq], r⟩
  | [], _ :: _, h, _, _ => by cases h
  | _ :: _, [], h, _, _ => by cases h
theorem MapL.mem : ∀ {es : List MapEntry} {D : List (K × V)}, MapL enc Rv es D → ∀ p ∈ D, ∃ en ∈ es, en.key = enc p.1
  | [], [], _, p, h => by cases h
  | e :: _, q :: _, h, p, hp => by
    rcases List.mem_cons.1 hp with rfl | hp
    · exact ⟨e, by simp, h.1⟩
    · obtain ⟨en, hen, r⟩ := MapL.mem h.2.2 p hp
      exact ⟨en, by simp [hen], r⟩
  | [], _ :: _, h, _, _ => by cases h
  | _ :: _, [], h, _, _ => by cases h
theorem MapL.push : ∀ {es : List MapEntry} {D : List (K × V)} {en : MapEntry} {k : K} {x : V}, MapL enc Rv es D → en.key = enc k → Rv k en.val x → MapL enc Rv (es ++ [en]) (D ++ [(k, x)])
  | [], [], _, _, _, _, h1, h2 => ⟨h1, h2, trivial⟩
  | _ :: _, _ :: _, _, _, _, h, h1, h2 => ⟨h.1, h.2.1, MapL.push h.2.2 h1 h2⟩
  | [], _ :: _, _, _, _, h, _, _ => by cases h
  | _ :: _, [], _, _, _, h, _, _ => by cases h
/-- The entry of a key is the one that is written, and no other. -/
theorem MapL.set [DecidableEq K] (hinj : ∀ {x y}, enc x = enc y → x = y) {k : K} {val : Value} {x : V} (hv : Rv' k val x) : ∀ {es : List MapEntry} {D : List (K × V)} {j : Nat} {e0 : MapEntry}, MapL enc Rv es D → es.Pairwise (fun a b => a.key ≠ b.key) →
    es[j]? = some e0 → e0.key = enc k → (∀ p ∈ D, p.1 ≠ k → ∀ v, Rv p.1 v p.2 → Rv' p.1 v p.2) → MapL enc Rv' (es.set j { e0 with key := enc k, val := val }) (mput D k x)
  | [], _, j, e0, _, _, h, _, _ => by simp at h
  | e :: es, [], _, _, h, _, _, _, _ => by cases h
  | e :: es, p :: D, 0, e0, h, hp, he, hk, hi => by
    simp only [List.getElem?_cons_zero, Option.some.injEq] at he
    subst he
    have hpk : p.1 = k := hinj (h.1.symm.trans hk)
    simp only [mput, if_pos hpk, List.set_cons_zero]
    refine ⟨rfl, hv, h.2.2.imp fun q hq v hv' => hi q (by simp [hq]) (fun e' => ?_) v hv'⟩
    obtain ⟨en, hen, hek⟩ := MapL.mem h.2.2 q hq
    exact (List.pairwise_cons.1 hp).1 en hen (by rw [hk, hek, e'])
  | e :: es, p :: D, j + 1, e0, h, hp, he, hk, hi => by
    simp only [List.getElem?_cons_succ] at he
    have hpk : p.1 ≠ k := fun e' => (List.pairwise_cons.1 hp).1 e0 (List.mem_of_getElem? he) (by rw [hk, h.1, e'])
    simp only [mput, if_neg hpk, List.set_cons_succ]
    exact ⟨h.1, hi p (by simp) hpk _ h.2.1, MapL.set hinj hv h.2.2 (List.pairwise_cons.1 hp).2 he hk (fun q hq => hi q (by simp [hq]))⟩
theorem MapL.get [DecidableEq K] (hinj : ∀ {x y}, enc x = enc y → x = y) {k : K} : ∀ {es : List MapEntry} {D : List (K × V)} {j : Nat} {e0 : MapEntry}, MapL enc Rv es D → es.Pairwise (fun a b => a.key ≠ b.key) →
    es[j]? = some e0 → e0.key = enc k → ∃ x, mget D k = some x ∧ Rv k e0.val x
  | [], _, j, e0, _, _, h, _ => by simp at h
  | e :: es, [], _, _, h, _, _, _ => by cases h
  | e :: es, p :: D, 0, e0, h, hp, he, hk => by
    simp only [List.getElem?_cons_zero, Option.some.injEq] at he
    subst he
    have hpk : p.1 = k := hinj (h.1.symm.trans hk)
    refine ⟨p.2, by simp [mget, hpk], ?_⟩
    rw [← hpk]; exact h.2.1
  | e :: es, p :: D, j + 1, e0, h, hp, he, hk => by
    simp only [List.getElem?_cons_succ] at he
    have hpk : p.1 ≠ k := fun e' => (List.pairwise_cons.1 hp).1 e0 (List.mem_of_getElem? he) (by rw [hk, h.1, e'])
    simp only [mget, if_neg hpk]
    exact MapL.get hinj h.2.2 (List.pairwise_cons.1 hp).2 he hk
end

section
variable {P : Program} {kt : TypeId} {K V : Type} [DecidableEq K]
/-- A map of the call's own. -/
def MapR (ky : Ky P kt K) (Rv : K → Value → V → Prop) (v : Value) (D : List (K × V)) (tk : Option Ow) : Prop :=
  ∃ b es clock, v = .map (some b) ∧ tk = some ⟨b, .map es clock, 0⟩ ∧ Stamped es clock ∧ (∀ p ∈ D, ky.ok p.1) ∧ MapL ky.enc Rv es.toList D ∧ D.length ≤ small
variable {ky : Ky P kt K} {Rv Rv' : K → Value → V → Prop}
omit [DecidableEq K] in
theorem MapR.imp {v : Value} {D : List (K × V)} {tk : Option Ow} (h : MapR ky Rv v D tk) (hi : ∀ p ∈ D, ∀ v, Rv p.1 v p.2 → Rv' p.1 v p.2) : MapR ky Rv' v D tk := by
  obtain ⟨b, es, clock, h1, h2, h3, h4, h5, h6⟩ := h
  exact ⟨b, es, clock, h1, h2, h3, h4, h5.imp hi, h6⟩
omit [DecidableEq K] in
theorem MapR.empty (b : Nat) : MapR ky Rv (.map (some b)) [] (some ⟨b, .map #[] 0, 0⟩) := ⟨b, #[], 0, rfl, rfl, stamped_empty 0, by simp, trivial, by simp [small]⟩
omit [DecidableEq K] in
theorem MapR.zero {v : Value} {D : List (K × V)} {tk : Option Ow} {x : Ow} (h : MapR ky Rv v D tk) (hx : tk = some x) : x.m = 0 := by
  obtain ⟨b, es, clock, h1, h2, _⟩ := h
  rw [h2] at hx; cases hx; rfl
variable {w0 : Bs} {G0 G : Mem} {L : Lo}
theorem run_put {t e : TypeId} (ht : P.underlying t = some (.map kt e)) {v : Value} {D : List (K × V)} {tk : Option Ow} (h : MapR ky Rv v D tk) {key : Nat} (hid : L.get key = tk) {k : K} {val : Value} {x : V} (hk : ky.ok k) (hv : Rv' k val x) (hi : ∀ p ∈ D, p.1 ≠ k → ∀ v, Rv p.1 v p.2 → Rv' p.1 v p.2)
    (hsm : (mput D k x).length ≤ small) (w : World) (hs : St w0 G0 G L w) : ∃ tk' w', (Instr.mapUpdate t v (ky.enc k) val).run P w = .ok () w' ∧ MapR ky Rv' v (mput D k x) tk' ∧ St w0 G0 G ((key, tk') :: L) w' := by
  obtain ⟨b, es, clock, rfl, rfl, h3, h4, h5, h6⟩ := h
  obtain ⟨l, hl⟩ := ky.lit hk
  have hb := (hs.loc key _ hid).1
  dsimp only at hb
  have hbs := (Array.getElem?_eq_some_iff.1 hb).1
  have hkeys : ∀ en ∈ es.toList, ∃ l, keyOf P kt en.key = some l := fun en hen => by
    obtain ⟨p, hp, hpk, _⟩ := h5.key en hen
    rw [hpk]; exact ky.lit (h4 p hp)
  have hupd : ∀ o', St w0 G0 G ((key, some ⟨b, o', 0⟩) :: L) { w with heap := w.heap.setIfInBounds b o' } := fun o' =>
    hs.upd hid (by simp [hbs]) (Nat.le_refl _) (fun k' _ hk' => absurd hk' (Nat.not_lt_zero k')) (fun k' hk' => by simp only [Array.getElem?_setIfInBounds]; rw [if_neg (fun e' => hk' e'.symm)]) rfl rfl rfl rfl (by simp)
  rcases ky.keyed.find w hl es.toList hkeys with ⟨h1, h2⟩ | ⟨j, e0, h1, h2, h3'⟩
  · have hnew : ∀ p ∈ D, p.1 ≠ k := fun p hp e' => by
      obtain ⟨en, hen, hek⟩ := h5.mem p hp
      exact h2 en hen (by rw [hek, e'])
    refine ⟨some ⟨b, .map (es.push ⟨ky.enc k, val, clock⟩) (clock + 1), 0⟩, _, ?_, ⟨b, _, _, rfl, rfl, stamped_push h3 h2, ?_, ?_, hsm⟩, hupd _⟩
    · simp [Instr.mapUpdate, run_underlying ht, MapKept.run_getObj_map hb, ky.keyed.check w false hl, h1, MapKept.run_setObj_map _ hb, Result.andThen]
    · rw [mput_new hnew]
      intro p hp
      rcases List.mem_append.1 hp with hp | hp
      · exact h4 p hp
      · simp only [List.mem_singleton] at hp; subst hp; exact hk
    · rw [mput_new hnew, Array.toList_push]
      exact (h5.imp fun p hp v hv' => hi p hp (hnew p hp) v hv').push rfl hv
  · have hj : es[j]? = some e0 := by rw [← Array.getElem?_toList]; exact h2
    have hkeyf : ∀ e' : MapEntry, es[j]? = some e' → ({ e' with key := ky.enc k, val := val } : MapEntry).key = e'.key := fun e' he' => by rw [hj] at he'; cases he'; exact h3'.symm
    have hpw := ((stamped_iff es clock).1 h3).2.2
    have hlist : (es.modify j fun e' => { e' with key := ky.enc k, val := val }).toList = es.toList.set j { e0 with key := ky.enc k, val := val } := by
      apply List.ext_getElem?
      intro i
      rw [Array.getElem?_toList, Array.getElem?_modify, List.getElem?_set]
      by_cases hij : j = i
      · subst hij
        rw [if_pos rfl, if_pos rfl, hj, if_pos (List.getElem?_eq_some_iff.1 h2).1]; rfl
      · rw [if_neg hij, if_neg hij, Array.getElem?_toList]
    refine ⟨some ⟨b, .map (es.modify j fun e' => { e' with key := ky.enc k, val := val }) clock, 0⟩, _, ?_, ⟨b, _, _, rfl, rfl, stamped_modify h3 _ _ (fun _ _ => rfl) (fun e' _ he' => hkeyf e' he'), ?_, ?_, hsm⟩, hupd _⟩
    · simp [Instr.mapUpdate, run_underlying ht, MapKept.run_getObj_map hb, ky.keyed.check w false hl, h1, hj, h3', ky.keyed.stays w hl, MapKept.run_setObj_map _ hb, Result.andThen]
    · have : ∀ (D : List (K × V)), (∀ p ∈ D, ky.ok p.1) → ∀ p ∈ mput D k x, ky.ok p.1 := by
        intro D
        induction D with
        | nil => intro _ p hp; simp only [mput, List.mem_singleton] at hp; subst hp; exact hk
        | cons q D ih =>
          intro hD p hp
          simp only [mput] at hp
          split at hp
          · rcases List.mem_cons.1 hp with rfl | hp
            · exact hk
            · exact hD p (by simp [hp])
          · rcases List.mem_cons.1 hp with rfl | hp
            · exact hD p (by simp)
            · exact ih (fun p hp => hD p (by simp [hp])) p hp
      exact this D h4
    · rw [hlist]
      exact MapL.set (fun h => ky.inj h) hv h5 hpw h2 h3' hi
theorem run_get (c : Bool) {t e : TypeId} (ht : P.underlying t = some (.map kt e)) {z : Value} (hz : ∀ w, (zeroValue e).run P w = .ok z w) {v : Value} {D : List (K × V)} {tk : Option Ow} (h : MapR ky Rv v D tk) {key : Nat} (hid : L.get key = tk) {k : K} (hk : ky.ok k) (w : World) (hs : St w0 G0 G L w) :
    ∃ val, (Instr.lookup t v (ky.enc k) c).run P w = .ok (if c then .tuple #[val, .bool (mget D k).isSome] else val) w ∧ ((mget D k = none ∧ val = z) ∨ ∃ x, mget D k = some x ∧ Rv k val x) := by
  obtain ⟨b, es, clock, rfl, rfl, h3, h4, h5, h6⟩ := h
  obtain ⟨l, hl⟩ := ky.lit hk
  have hb := (hs.loc key _ hid).1
  dsimp only at hb
  have hkeys : ∀ en ∈ es.toList, ∃ l, keyOf P kt en.key = some l := fun en hen => by
    obtain ⟨p, hp, hpk, _⟩ := h5.key en hen
    rw [hpk]; exact ky.lit (h4 p hp)
  have hpw := ((stamped_iff es clock).1 h3).2.2
  rcases ky.keyed.find w hl es.toList hkeys with ⟨h1, h2⟩ | ⟨j, e0, h1, h2, h3'⟩
  · have hnew : ∀ p ∈ D, p.1 ≠ k := fun p hp e' => by
      obtain ⟨en, hen, hek⟩ := h5.mem p hp
      exact h2 en hen (by rw [hek, e'])
    have hm := mget_new hnew
    refine ⟨z, ?_, .inl ⟨hm, rfl⟩⟩
    rw [hm]
    simp [Instr.lookup, run_underlying ht, MapKept.run_getObj_map hb, ky.keyed.check w _ hl, h1, hz, Result.andThen]
  · obtain ⟨x, hx, hrx⟩ := MapL.get (fun h => ky.inj h) h5 hpw h2 h3'
    refine ⟨e0.val, ?_, .inr ⟨x, hx, hrx⟩⟩
    rw [hx]
    simp [Instr.lookup, run_underlying ht, MapKept.run_getObj_map hb, ky.keyed.check w _ hl, h1, Result.andThen]
end

section
variable {P : Program} {kt : TypeId} {K V : Type} [DecidableEq K] {ky : Ky P kt K} {Rv Rv' : K → Value → V → Prop}
variable {N : Nat} {Q : Post} {fr : Fr} {S : Asrt} {ops : Array Oper} {l : List Oper} {dst : Option Nat} {ty : TypeId} {pos : String} {af : Array Edge} {g : Option (Nat × Bool)}
variable {w0 : Bs} {G0 G : Mem} {L : Lo}
omit [DecidableEq K] in
theorem WL.makeMap {t : TypeId} (key : Nat) (hg : guardOK ops fr ⟨dst, .makeMap t none, ty, pos, af, g⟩ true) (hd : dstOK N dst)
    (k : ∀ b tk, MapR ky Rv (.map (some b)) [] tk → WL P N ops Q l (putFr dst (.map (some b)) fr) (St w0 G0 G ((key, tk) :: L))) : WL P N ops Q (⟨dst, .makeMap t none, ty, pos, af, g⟩ :: l) fr (St w0 G0 G L) := by
  refine WL.yr (Φ := fun v w => ∃ b, v = .map (some b) ∧ St w0 G0 G ((key, some ⟨b, .map #[] 0, 0⟩) :: L) w) hg (fun a w ha hs => ?_) hd (fun v a w ha ⟨b, h1, h2⟩ => by subst h1; exact k b _ (MapR.empty b) a w ha h2)
  have : (execOp a.eval ⟨dst, .makeMap t none, ty, pos, af, g⟩).run P w = .ok (.value (.map (some w.heap.size))) (w.alloc (.map #[] 0)) := by
    simp [execOp, run_makeMap]
  rw [this]
  exact ⟨_, rfl, hs.push key _⟩
theorem WL.mapPut {t e : TypeId} {m x y : Operand} {v val : Value} {D : List (K × V)} {tk : Option Ow} {k : K} {z : V} (key : Nat) (hg : guardOK ops fr ⟨none, .mapUpdate t m x y, ty, pos, af, g⟩ true) (ht : P.underlying t = some (.map kt e)) (h : MapR ky Rv v D tk) (hid : L.get key = tk)
    (hm : fr.ev m = some v) (hx : fr.ev x = some (ky.enc k)) (hy : fr.ev y = some val) (hk : ky.ok k) (hv : Rv' k val z) (hi : ∀ p ∈ D, p.1 ≠ k → ∀ v, Rv p.1 v p.2 → Rv' p.1 v p.2) (hsm : (mput D k z).length ≤ small)
    (kk : ∀ tk', MapR ky Rv' v (mput D k z) tk' → WL P N ops Q l fr (St w0 G0 G ((key, tk') :: L))) : WL P N ops Q (⟨none, .mapUpdate t m x y, ty, pos, af, g⟩ :: l) fr (St w0 G0 G L) := by
  refine WL.yr (Φ := fun _ w => ∃ tk', MapR ky Rv' v (mput D k z) tk' ∧ St w0 G0 G ((key, tk') :: L) w) hg (fun a w ha hs => ?_) trivial (fun _ a w ha ⟨tk', h1, h2⟩ => kk tk' h1 a w ha h2)
  obtain ⟨tk', w', h1, h2, h3⟩ := run_put ht h hid hk hv hi hsm w hs
  have : (execOp a.eval ⟨none, .mapUpdate t m x y, ty, pos, af, g⟩).run P w = .ok .skip w' ∨ (execOp a.eval ⟨none, .mapUpdate t m x y, ty, pos, af, g⟩).run P w = .ok (.value undef) w' := by
    simp [execOp, ha.ev hm, ha.ev hx, ha.ev hy, h1]
  rcases this with this | this <;> rw [this] <;> exact ⟨tk', h2, h3⟩
theorem Y0.mapGet {t e : TypeId} {m x : Operand} {v z : Value} {D : List (K × V)} {tk : Option Ow} {k : K} {key : Nat} (ht : P.underlying t = some (.map kt e)) (hz : ∀ w, (zeroValue e).run P w = .ok z w) (h : MapR ky Rv v D tk) (hid : L.get key = tk)
    (hm : fr.ev m = some v) (hx : fr.ev x = some (ky.enc k)) (hk : ky.ok k) (c : Bool) {R : Value → Prop} (h0 : mget D k = none → R (if c then .tuple #[z, .bool false] else z)) (h1 : ∀ val y, mget D k = some y → Rv k val y → R (if c then .tuple #[val, .bool true] else val)) :
    YR P N ⟨dst, .lookup t m x c, ty, pos, af, g⟩ fr (St w0 G0 G L) (fun u w => R u ∧ St w0 G0 G L w) := fun a w ha hs => by
  obtain ⟨val, hr, hc⟩ := run_get c ht hz h hid hk w hs
  have : (execOp a.eval ⟨dst, .lookup t m x c, ty, pos, af, g⟩).run P w = .ok (.value (if c then .tuple #[val, .bool (mget D k).isSome] else val)) w := by
    simp [execOp, ha.ev hm, ha.ev hx, hr]
  rw [this]
  refine ⟨?_, hs⟩
  rcases hc with ⟨e1, rfl⟩ | ⟨y, e1, e2⟩
  · have := h0 e1; rw [e1]; exact this
  · have := h1 val y e1 e2; rw [e1]; exact this
/-- m[k]: what is found, or the zero value. -/
theorem WL.mapGet {t e : TypeId} {m x : Operand} {v z : Value} {D : List (K × V)} {tk : Option Ow} {k : K} (key : Nat) (c : Bool) {R : Value → Prop} (hg : guardOK ops fr ⟨dst, .lookup t m x c, ty, pos, af, g⟩ true) (hd : dstOK N dst) (ht : P.underlying t = some (.map kt e)) (hz : ∀ w, (zeroValue e).run P w = .ok z w) (h : MapR ky Rv v D tk) (hid : L.get key = tk)
    (hm : fr.ev m = some v) (hx : fr.ev x = some (ky.enc k)) (hk : ky.ok k) (h0 : mget D k = none → R (if c then .tuple #[z, .bool false] else z)) (h1 : ∀ val y, mget D k = some y → Rv k val y → R (if c then .tuple #[val, .bool true] else val))
    (kk : ∀ u, R u → WL P N ops Q l (putFr dst u fr) (St w0 G0 G L)) : WL P N ops Q (⟨dst, .lookup t m x c, ty, pos, af, g⟩ :: l) fr (St w0 G0 G L) :=
  WL.yr hg (Y0.mapGet ht hz h hid hm hx hk c h0 h1) hd (fun u a w ha ⟨q1, q2⟩ => kk u q1 a w ha q2)
end
end Go.EL
