/- Rows: slices that the call may still write into. No condition. -/
import Derived.Test.YtbdknlblnfnkkaaEll
namespace Go.EL
open Go Go.RowKit Go.Proofs

/-- What a cell of an own block holds. -/
def CellT (tk : Option Ow) (o : Nat) (u : Value) : Prop := ∃ b c e m, tk = some ⟨b, .cells c e (0, 0), m⟩ ∧ c[o]? = some u
/-- A slice of the call's own, nobody else knows its cells; it reads as a list. -/
def RowR {α : Type} (r : Rp α) (e : TypeId) (G : Mem) (v : Value) (xs : List α) : Option Ow → Prop
  | none => xs = [] ∧ ∃ p, v = .slice p 0 0 ∧ ∀ a, p = some a → a.spot = none
  | some x => ∃ cap cs rest, v = .slice (some ⟨x.b, 0, none⟩) xs.length cap ∧ x.o = .cells (cs ++ rest).toArray e (0, 0) ∧ x.m = 0 ∧ RepL r G cs xs ∧ (cs ++ rest).length = cap * r.size ∧ cap ≤ maxLen ∧ xs.length ≤ cap

section
variable {w0 : Bs} {G0 G : Mem} {L : Lo} {α : Type} {r : Rp α} {e : TypeId}
theorem RowR.form {v : Value} {xs : List α} {tk : Option Ow} (h : RowR r e G v xs tk) : ∃ p cap, v = .slice p xs.length cap := by
  cases tk with
  | none => obtain ⟨rfl, p, h, _⟩ := h; exact ⟨p, 0, h⟩
  | some x => obtain ⟨cap, cs, rest, h, _⟩ := h; exact ⟨_, cap, h⟩
theorem RowR.mono {G' : Mem} {v : Value} {xs : List α} {tk : Option Ow} (h : RowR r e G v xs tk) (hle : Mem.le G G') : RowR r e G' v xs tk := by
  cases tk with
  | none => exact h
  | some x => obtain ⟨cap, cs, rest, h1, h2, h3, h4, h5⟩ := h; exact ⟨cap, cs, rest, h1, h2, h3, h4.mono hle, h5⟩
theorem RowR.nil : RowR r e G (.slice none 0 0) [] none := ⟨rfl, none, rfl, fun _ h => by cases h⟩
theorem RowR.at {p : Option Addr} {n cap : Nat} {xs : List α} {tk : Option Ow} (h : RowR r e G (.slice p n cap) xs tk) {i : Int} {x : α} (hi : 0 ≤ i ∧ xs[i.toNat]? = some x) : AtK r G (CellT tk) (i.toNat * r.size) x := by
  cases tk with
  | none => obtain ⟨rfl, _⟩ := h; simp at hi
  | some y =>
    obtain ⟨cap', cs, rest, h1, h2, h3, h4, h5, _⟩ := h
    obtain ⟨c, hc1, hc2⟩ := h4.get hi.2
    obtain ⟨yb, yo, ym⟩ := y
    dsimp only at h2 h3
    subst h2 h3
    refine ⟨c, hc1, fun j u hu => ⟨yb, _, e, 0, rfl, ?_⟩⟩
    have := hc2 j u hu
    rw [List.getElem?_toArray, List.getElem?_append_left (List.getElem?_eq_some_iff.1 this).1]
    exact this
theorem RowR.block {p : Option Addr} {n cap : Nat} {xs : List α} {x : Ow} (h : RowR r e G (.slice p n cap) xs (some x)) : pb p = x.b ∧ po p = 0 := by
  obtain ⟨cap', cs, rest, h1, _⟩ := h
  cases h1
  exact ⟨rfl, rfl⟩
/-- The mark goes back to the start where nothing is known. -/
theorem St.unmark {i b m : Nat} {o : Obj} {w : World} (h : St w0 G0 G ((i, some ⟨b, o, m⟩) :: L) w) (hG : ∀ k, G b k = none) : St w0 G0 G ((i, some ⟨b, o, 0⟩) :: L) w := by
  have hi : Lo.get ((i, some ⟨b, o, m⟩) :: L) i = some ⟨b, o, m⟩ := by rw [Lo.get_cons, if_pos rfl]
  obtain ⟨l1, l2, l3⟩ := h.loc i _ hi
  have key : ∀ j y, Lo.get ((i, some ⟨b, o, 0⟩) :: L) j = some y → ∃ y', Lo.get ((i, some ⟨b, o, m⟩) :: L) j = some y' ∧ y'.b = y.b := by
    intro j y hj
    rw [Lo.get_cons] at hj ⊢
    split at hj
    · rename_i e; rw [if_pos e]; cases hj; exact ⟨_, rfl, rfl⟩
    · rename_i e; rw [if_neg e]; exact ⟨y, hj, rfl⟩
  refine { h with loc := fun j y hj => ?_, dist := fun j k y z hne e1 e2 => ?_ }
  · rw [Lo.get_cons] at hj
    split at hj
    · rename_i e
      subst e
      cases hj
      exact ⟨l1, l2, fun k _ => hG k⟩
    · rename_i e
      exact h.loc j y (by rw [Lo.get_cons, if_neg e]; exact hj)
  · obtain ⟨y', k1, k2⟩ := key j y e1
    obtain ⟨z', k3, k4⟩ := key k z e2
    rw [← k2, ← k4]
    exact h.dist j k y' z' hne k1 k3

/-- A row may be given away: its cells become known. -/
theorem RowR.freeze {v : Value} {xs : List α} {tk : Option Ow} {key : Nat} (h : RowR r e G v xs tk) (hid : L.get key = tk) (h0 : w0.L.get key = none) {w : World} (hs : St w0 G0 G L w) :
    ∃ G' tk', Mem.le G G' ∧ SlR r G' v xs ∧ Tok r.size e v xs.length tk' ∧ St w0 G0 G' ((key, tk') :: L) w ∧ (∀ Gx L' w', Mem.le G Gx → Mem.le G' Gx → St w0 G0 Gx ((key, tk') :: L') w' → St w0 G0 G ((key, tk) :: L') w') := by
  cases tk with
  | none =>
    obtain ⟨rfl, p, rfl, hp⟩ := h
    exact ⟨G, none, Mem.le_refl _, ⟨p, 0, [], rfl, by simp, hp, fun h => by simp at h, rfl, fun j u h => by simp at h⟩, ⟨p, rfl⟩, hs.weaken (Lo.sub_cons hid (Lo.sub_refl _)), fun Gx L' w' h1 _ h2 => h2.memLe hs.base h1⟩
  | some x =>
    obtain ⟨cap, cs, rest, rfl, h2, h3, h4, h5, h6, h7⟩ := h
    obtain ⟨xb, xo, xm⟩ := x
    dsimp only at h2 h3
    subst h2 h3
    have hl := h4.len
    obtain ⟨k1, k2⟩ := hs.know (i := key) (n := xs.length * r.size) hid h0 (Nat.zero_le _)
    refine ⟨_, some ⟨xb, .cells (cs ++ rest).toArray e (0, 0), xs.length * r.size⟩, k2, ⟨_, cap, cs, rfl, by simp only [maxLen] at h6; omega, fun a ha => by cases ha; rfl, fun _ => rfl, h4.mono k2, fun j u hu => ?_⟩, ⟨cap, _, rfl, rfl, rfl, by simpa using h5, h6, h7⟩, k1, fun Gx L' w' e1 e2 e3 => ?_⟩
    · have hj := (List.getElem?_eq_some_iff.1 hu).1
      show Mem.row G xb _ 0 _ xb (0 + j) = some u
      rw [Nat.zero_add, Mem.row_at (Nat.zero_le _) (by rw [← hl]; exact hj), List.getElem?_toArray, List.getElem?_append_left hj]
      exact hu
    · exact (e3.memLe hs.base e1).unmark (fun k => (hs.loc key _ hid).2.2 k (Nat.zero_le _))
/-- What was appended to and given away is the call's own no more; but a row it was. -/
theorem RowR.tok {v : Value} {xs : List α} {tk : Option Ow} (h : RowR r e G v xs tk) : ∃ p cap, v = .slice p xs.length cap := h.form
end

section
variable {P : Program} {N : Nat} {Q : Post} {fr : Fr} {S : Asrt} {ops : Array Oper} {l : List Oper} {dst : Option Nat} {ty : TypeId} {pos : String} {af : Array Edge} {g : Option (Nat × Bool)}
variable {w0 : Bs} {G0 G : Mem} {L : Lo} {α : Type} {r : Rp α} {e : TypeId}

theorem WL.freezeT {v : Value} {xs : List α} {tk : Option Ow} (key : Nat) (h : RowR r e G v xs tk) (hid : L.get key = tk) (h0 : w0.L.get key = none)
    (k : ∀ tk' G', Mem.le G G' → SlR r G' v xs → Tok r.size e v xs.length tk' → WL P N ops Q l fr (St w0 G0 G' ((key, tk') :: L))) : WL P N ops Q l fr (St w0 G0 G L) := fun a w ha hs => by
  obtain ⟨G', tk', h1, h2, h3, h4, _⟩ := h.freeze hid h0 hs
  exact k tk' G' h1 h2 h3 a w ha h4
theorem WE.freezeT {x : Exit} {v : Value} {xs : List α} {tk : Option Ow} (key : Nat) (h : RowR r e G v xs tk) (hid : L.get key = tk) (h0 : w0.L.get key = none)
    (k : ∀ tk' G', Mem.le G G' → SlR r G' v xs → Tok r.size e v xs.length tk' → WE N Q x fr (St w0 G0 G' ((key, tk') :: L))) : WE N Q x fr (St w0 G0 G L) := fun a w ha hs => by
  obtain ⟨G', tk', h1, h2, h3, h4, _⟩ := h.freeze hid h0 hs
  exact k tk' G' h1 h2 h3 a w ha h4
/-- An operation that reads a row of the call's own, as if it were known; what it yields says nothing of memory. -/
theorem WL.peek {op : Op} {v c : Value} {xs : List α} {tk : Option Ow} (key : Nat) (L' : Lo) (h : RowR r e G v xs tk) (hid : L.get key = tk) (h0 : w0.L.get key = none) (hg : guardOK ops fr ⟨dst, op, ty, pos, af, g⟩ true) (hd : dstOK N dst)
    (hy : ∀ tk' G', Mem.le G G' → SlR r G' v xs → YR P N ⟨dst, op, ty, pos, af, g⟩ fr (St w0 G0 G' ((key, tk') :: L)) (fun u w' => u = c ∧ ∃ G'', Mem.le G' G'' ∧ St w0 G0 G'' ((key, tk') :: L') w'))
    (k : WL P N ops Q l (putFr dst c fr) (St w0 G0 G ((key, tk) :: L'))) : WL P N ops Q (⟨dst, op, ty, pos, af, g⟩ :: l) fr (St w0 G0 G L) := by
  refine WL.yr (Φ := fun u w' => u = c ∧ St w0 G0 G ((key, tk) :: L') w') hg (fun a w ha hs => ?_) hd (fun u a w ha ⟨h1, h2⟩ => by subst h1; exact k a w ha h2)
  obtain ⟨G', tk', h1, h2, h3, h4, h5⟩ := h.freeze hid h0 hs
  exact (hy tk' G' h1 h2 a w ha h4).mono fun u w' ⟨q1, G'', q2, q3⟩ => ⟨q1, h5 G'' L' w' (Mem.le_trans h1 q2) q2 q3⟩

theorem Y0.lenRow {x : Operand} {t e' : TypeId} {v : Value} {xs : List α} {tk : Option Ow} (ht : P.underlying t = some (.slice e')) (h : RowR r e G v xs tk) (hx : fr.ev x = some v) : Y0 P N ⟨dst, .call ⟨.builtin .len, #[x], #[t]⟩, ty, pos, af, g⟩ fr S (.int .i64 (xs.length : Int)) := by
  obtain ⟨p, cap, rfl⟩ := h.form
  exact Y0.lenSl ht hx
theorem Y0.idxRow {t e' : TypeId} {x y : Operand} {n cap sz : Nat} {p : Option Addr} {k : IntKind} {i : Int} {xs : List α} {z : α} {tk : Option Ow} (ht : P.underlying t = some (.slice e')) (hsz : (P.info? e').map (·.size) = some sz) (h : RowR r e G (.slice p n cap) xs tk)
    (hx : fr.ev x = some (.slice p n cap)) (hy : fr.ev y = some (.int k i)) (hi : 0 ≤ i ∧ xs[i.toNat]? = some z) : Y0 P N ⟨dst, .indexAddr t x y, ty, pos, af, g⟩ fr S (.pointer (some ⟨pb p, i.toNat * sz, none⟩)) := by
  cases tk with
  | none => obtain ⟨rfl, _⟩ := h; simp at hi
  | some q =>
    obtain ⟨cap', cs, rest, h1, _⟩ := h
    cases h1
    have hlt := (List.getElem?_eq_some_iff.1 hi.2).1
    exact (Y0.idxSl ht hsz hx hy (by omega)).eq (by simp [pb])
theorem Y0.loadT {t : TypeId} {x : Operand} {p : Option Addr} {n cap off key : Nat} {v : Value} {xs : List α} {tk : Option Ow} (ht : ScalT P t) (h : RowR r e G (.slice p n cap) xs tk) (hid : L.get key = tk) (hx : fr.ev x = some (.pointer (some ⟨pb p, off, none⟩)))
    (hv : CellT tk off v) : Y0 P N ⟨dst, .load t x, ty, pos, af, g⟩ fr (St w0 G0 G L) v := by
  obtain ⟨b, c, e', m, rfl, hc⟩ := hv
  rw [h.block.1] at hx
  exact Y0.loadL key ht hx hid hc
theorem Y0.loadTA {t : TypeId} {x : Operand} {p : Option Addr} {n cap off key sz : Nat} (vs : Array Value) {xs : List α} {tk : Option Ow} (ht : AggT P t sz) (h : RowR r e G (.slice p n cap) xs tk) (hid : L.get key = tk) (hx : fr.ev x = some (.pointer (some ⟨pb p, off, none⟩)))
    (hn : vs.size = sz) (h0 : 0 < sz) (hv : ∀ j u, vs[j]? = some u → CellT tk (off + j) u) : Y0 P N ⟨dst, .load t x, ty, pos, af, g⟩ fr (St w0 G0 G L) (.agg vs) := by
  have h1 := hv 0 _ (Array.getElem?_eq_getElem (by omega))
  obtain ⟨b, c, e', m, rfl, hc⟩ := h1
  rw [h.block.1] at hx
  exact Y0.loadLP vs key ht hx hid hn (fun j u hu => by
    obtain ⟨b2, c2, e2, m2, q1, q2⟩ := hv j u hu
    cases q1
    exact q2)
/-- An element is written. -/
theorem WL.storeT {t : TypeId} {x y : Operand} {p : Option Addr} {n cap sz : Nat} {val : Value} {cs' : List Value} {i : Int} {xs : List α} {z z' : α} {tk : Option Ow} (key : Nat) (hg : guardOK ops fr ⟨none, .store t x y, ty, pos, af, g⟩ true) (ht : (P.info? t).map (·.size) = some sz) (hsr : sz = r.size)
    (h : RowR r e G (.slice p n cap) xs tk) (hid : L.get key = tk) (hx : fr.ev x = some (.pointer (some ⟨pb p, i.toNat * sz, none⟩))) (hy : fr.ev y = some val) (hval : val.cells = cs'.toArray) (hrep : r.rep G cs' z') (hi : 0 ≤ i ∧ xs[i.toNat]? = some z)
    (k : ∀ tk', RowR r e G (.slice p n cap) (xs.set i.toNat z') tk' → WL P N ops Q l fr (St w0 G0 G ((key, tk') :: L))) : WL P N ops Q (⟨none, .store t x y, ty, pos, af, g⟩ :: l) fr (St w0 G0 G L) := by
  cases tk with
  | none => obtain ⟨rfl, _⟩ := h; simp at hi
  | some q =>
    obtain ⟨cap', cs, rest, h1, h2, h3, h4, h5, h6, h7⟩ := h
    cases h1
    obtain ⟨qb, qo, qm⟩ := q
    dsimp only at h2 h3
    subst h2 h3
    have hlt := (List.getElem?_eq_some_iff.1 hi.2).1
    have hsp : xs = xs.take i.toNat ++ (xs[i.toNat] :: xs.drop (i.toNat + 1)) := by simp
    have hcl := h4.len
    rw [hsp] at h4
    obtain ⟨c1, d1, e1, k1, k2⟩ := h4.split
    obtain ⟨c2, d2, e2, k3, k4⟩ := k2
    have l1 := k1.len
    have l2 := r.len k3
    have l3 := r.len hrep
    have hti : (xs.take i.toNat).length = i.toNat := by simp; omega
    rw [hti] at l1
    have hnew : RepL r G (c1 ++ (cs' ++ d2)) (xs.set i.toNat z') := by
      rw [List.set_eq_take_append_cons_drop, if_pos hlt]
      exact k1.append ⟨cs', d2, rfl, hrep, k4⟩
    have hcells : ((cs ++ rest).take (i.toNat * sz) ++ cs' ++ (cs ++ rest).drop (i.toNat * sz + sz)) = (c1 ++ (cs' ++ d2)) ++ rest := by
      subst e1 e2
      rw [hsr, ← l1]
      have t1 : (c1 ++ (c2 ++ d2) ++ rest).take c1.length = c1 := by rw [List.append_assoc]; exact List.take_left
      have t2 : (c1 ++ (c2 ++ d2) ++ rest).drop (c1.length + r.size) = d2 ++ rest := by
        rw [← l2]
        have : c1 ++ (c2 ++ d2) ++ rest = (c1 ++ c2) ++ (d2 ++ rest) := by simp only [List.append_assoc]
        rw [this, ← List.length_append]
        exact List.drop_left
      rw [t1, t2]
      simp only [List.append_assoc]
    have hx' : fr.ev x = some (.pointer (some ⟨qb, i.toNat * sz, none⟩)) := hx
    refine WL.ys' (S' := St w0 G0 G ((key, some ⟨qb, .cells ((c1 ++ (cs' ++ d2)) ++ rest).toArray e (0, 0), 0⟩) :: L)) hg (fun a w ha hs => ?_) (k _ ?_)
    · have hb := (hs.loc key _ hid).1
      have hr := run_storeCells_at P qb (i.toNat * sz) e cs' 0 (cs ++ rest).toArray w hb (by
        simp only [List.size_toArray]
        rw [List.length_append, hcl, l3, ← hsr]
        have : (i.toNat + 1) * sz ≤ xs.length * sz := Nat.mul_le_mul_right _ hlt
        rw [Nat.add_mul] at this
        omega) (r.one hrep)
      simp only [Nat.add_zero] at hr
      rw [l3, ← hsr] at hr
      rw [hcells] at hr
      refine ⟨w.setRow qb ((c1 ++ (cs' ++ d2)) ++ rest).toArray, ?_, hs.upd hid ?_ (Nat.le_refl _) (fun k _ hk _ => absurd hk (Nat.not_lt_zero k)) (fun k hk => ?_) rfl rfl rfl rfl (by simp [World.setRow])⟩
      · simp [execOp, ha.ev hx', ha.ev hy, Instr.storeAt, Instr.sureAddr, storeVar, hval, run_sizeOf ht, l3, hsr, hr]
        rw [hsr] at hr
        simp [hr]
      · simp [World.setRow, Array.getElem?_modify, hb]
      · simp only [World.setRow, Array.getElem?_modify]
        rw [if_neg (fun e => hk e.symm)]
    · refine ⟨cap, c1 ++ (cs' ++ d2), rest, by simp, rfl, rfl, hnew, ?_, h6, by simpa using h7⟩
      rw [List.length_append, hnew.len, List.length_set, ← h5, List.length_append, hcl]

theorem run_append_T {t : TypeId} {z : Value} {bytes m c : Nat} {xs ys : List α} {v : Value} {p : Option Addr} {id : Nat} {tk : Option Ow} (ty : TypeId) (ht : P.underlying t = some (.slice e)) (hE : ElT P e z r.size bytes) (hzs : z.cells.size = r.size) (hby : bytes ≤ 100000)
    (hrow : RowR r e G v xs tk) (hid : L.get id = tk) (hx : SlR r G (.slice p m c) ys) (hsm : (xs ++ ys).length ≤ small)
    (w : World) (hs : St w0 G0 G L w) :
    ∃ v' tk' w', (Builtin.append_ #[t, t] ty #[v, .slice p m c]).run P w = .ok v' w' ∧ RowR r e G v' (xs ++ ys) tk' ∧ St w0 G0 G ((id, tk') :: L) w' := by
  obtain ⟨i, hi, hz, hsz, hbt⟩ := hE.parts
  obtain ⟨px, capx, ds, hx1, hx2, hx3, hx4, hx5, hx6⟩ := hx
  simp only [Value.slice.injEq] at hx1
  obtain ⟨rfl, rfl, rfl⟩ := hx1
  have hlx := hx5.len
  simp only [List.length_append, small] at hsm
  have hmaxL : xs.length + ys.length ≤ maxLen := by simp only [maxLen]; omega
  have hb1 : (xs.length + ys.length) * bytes ≤ 140737488355328 := by
    have : (xs.length + ys.length) * bytes ≤ 1000000000 * 100000 := Nat.mul_le_mul (by omega) hby
    omega
  by_cases hm : ys.length = 0
  · have hy : ys = [] := List.eq_nil_of_length_eq_zero hm
    subst hy
    simp only [List.length_nil, List.append_nil] at *
    refine ⟨v, tk, w, ?_, hrow, hs.weaken (Lo.sub_cons hid (Lo.sub_refl _))⟩
    cases tk with
    | none =>
      obtain ⟨rfl, q, rfl, _⟩ := hrow
      cases q with
      | none => cases p with
        | none => simp [Builtin.append_, run_underlying ht, sizeOf, typeInfo, hi, Builtin.lenOf, Builtin.firstCells]
        | some a => simp [Builtin.append_, run_underlying ht, sizeOf, typeInfo, hi, Builtin.lenOf, Builtin.firstCells, loadCells, loadCellsFrom]
      | some a' => cases p with
        | none => simp [Builtin.append_, run_underlying ht, sizeOf, typeInfo, hi, Builtin.lenOf, Builtin.firstCells, storeCells]
        | some a => simp [Builtin.append_, run_underlying ht, sizeOf, typeInfo, hi, Builtin.lenOf, Builtin.firstCells, storeCells, loadCells, loadCellsFrom]
    | some q =>
      obtain ⟨cap, cs, rest, rfl, _, _, _, _, _, hle⟩ := hrow
      cases p with
      | none => simp [Builtin.append_, run_underlying ht, sizeOf, typeInfo, hi, Builtin.lenOf, Builtin.firstCells, hle, storeCells]
      | some a => simp [Builtin.append_, run_underlying ht, sizeOf, typeInfo, hi, Builtin.lenOf, Builtin.firstCells, hle, storeCells, loadCells, loadCellsFrom]
  · have hp := hx4 (by omega)
    obtain ⟨pa, hpa⟩ := Option.isSome_iff_exists.1 hp
    subst hpa
    obtain ⟨sb, so, ss⟩ := pa
    have hss := hx3 _ rfl
    dsimp only at hss
    subst hss
    have hx6 : ∀ j u, ds[j]? = some u → G sb (so + j) = some u := hx6
    have hnews : ∀ j u, ds[j]? = some u → w.cell? ((⟨sb, so, none⟩ : Addr).add j) = some u := fun j u hu => by rw [add_none]; exact hs.imm _ _ _ (hx6 j u hu)
    have hone := hx5.one
    have hlx' : ds.length = ys.length * i.size := by rw [hsz]; exact hlx
    have grow : ∀ (pv : Option Addr) (cap : Nat) (cs : List Value), RepL r G cs xs → (Builtin.firstCells i.size xs.length (.slice pv xs.length cap)).run P w.drew = .ok cs.toArray w.drew → cap < xs.length + ys.length →
        ∃ v' tk' w', (Builtin.append_ #[t, t] ty #[.slice pv xs.length cap, .slice (some ⟨sb, so, none⟩) ys.length c]).run P w = .ok v' w' ∧ RowR r e G v' (xs ++ ys) tk' ∧ St w0 G0 G ((id, tk') :: L) w' := by
      intro pv cap cs hcs hold hg
      have hcap := grownCap_ge w (xs.length + ys.length) cap e
      have hmax := grownCap_le_maxLen w (xs.length + ys.length) cap e hmaxL
      have hsrc := Src.ofSlice (P := P) w (size := i.size) ht ⟨sb, so, none⟩ ys.length c ds hlx' hnews hone
      have hr := run_append_grow_src (P := P) w t t ty e i z ht hi hz pv xs.length cap cs hold _ ys.length ds hsrc hg (by omega) (growslice_fits hg (by rw [hbt]; exact hb1))
      have hsd : St w0 G0 G L w.drew := hs.drew
      have h3 := hsd.push id (.cells ((cs ++ ds).toArray ++ Builtin.zeroCells z.cells (grownCap w (xs.length + ys.length) cap e - (xs.length + ys.length))) e)
      have hlen : (cs ++ ds).length = (xs.length + ys.length) * r.size := by rw [List.length_append, hcs.len, hlx, Nat.add_mul]
      refine ⟨_, some ⟨w.drew.heap.size, .cells ((cs ++ ds).toArray ++ Builtin.zeroCells z.cells (grownCap w (xs.length + ys.length) cap e - (xs.length + ys.length))) e (0, 0), 0⟩, _, hr, ?_, h3⟩
      refine ⟨grownCap w (xs.length + ys.length) cap e, cs ++ ds, (Builtin.zeroCells z.cells (grownCap w (xs.length + ys.length) cap e - (xs.length + ys.length))).toList, by rw [List.length_append]; rfl, ?_, rfl, hcs.append hx5, ?_, hmax, by rw [List.length_append]; exact hcap⟩
      · dsimp only
        congr 1
        apply Array.ext'
        simp
      · have hzc : (Builtin.zeroCells z.cells (grownCap w (xs.length + ys.length) cap e - (xs.length + ys.length))).toList.length = (grownCap w (xs.length + ys.length) cap e - (xs.length + ys.length)) * r.size := by
          rw [Array.length_toList (xs := Builtin.zeroCells z.cells _), size_zeroCells, hzs]
        rw [List.length_append, hlen, hzc, ← Nat.add_mul]
        congr 1; omega
    cases tk with
    | none =>
      obtain ⟨rfl, q, rfl, hq⟩ := hrow
      refine grow q 0 [] rfl ?_ (by simp; omega)
      cases q with
      | none => exact run_firstCells_none _ _ _ _ _
      | some a => exact run_firstCells_some _ _ _ _ _ _ _ (by simp) (fun j u hu => by simp at hu)
    | some q =>
      obtain ⟨cap, cs, rest, rfl, h2, h3, h4, h5, h6, h7⟩ := hrow
      obtain ⟨qb, qo, qm⟩ := q
      dsimp only at h2 h3
      subst h2 h3
      have hblk := (hs.loc id _ hid).1
      dsimp only at hblk
      have hlv := h4.len
      by_cases hroom : xs.length + ys.length ≤ cap
      · have hfit : xs.length * i.size + ds.length ≤ (cs ++ rest).toArray.size := by
          rw [List.size_toArray, h5, hlx', hsz, ← Nat.add_mul]; exact Nat.mul_le_mul_right _ hroom
        have hr := run_append_room (P := P) w t ty e i ht hi qb xs.length cap (cs ++ rest).toArray hblk ⟨sb, so, none⟩ ys.length c ds hlx' hnews hone hroom hfit
        rw [hsz, ← hlv] at hr
        have e1 : (cs ++ rest).toArray.toList.take cs.length = cs := by simp
        have e2 : (cs ++ rest).toArray.toList.drop (cs.length + ds.length) = rest.drop ds.length := by simp
        rw [e1, e2] at hr
        refine ⟨_, some ⟨qb, .cells ((cs ++ ds) ++ rest.drop ds.length).toArray e (0, 0), 0⟩, _, hr, ?_, hs.upd hid (by simp [World.setRow, Array.getElem?_modify, hblk]) (Nat.le_refl _) (fun k _ hk _ => absurd hk (Nat.not_lt_zero k)) (fun k hk => ?_) rfl rfl rfl rfl (by simp [World.setRow])⟩
        · refine ⟨cap, cs ++ ds, rest.drop ds.length, by rw [List.length_append], rfl, rfl, h4.append hx5, ?_, h6, by rw [List.length_append]; exact hroom⟩
          rw [hsz] at hfit hlx'
          simp only [List.size_toArray] at hfit
          rw [List.length_append] at h5 hfit
          simp only [List.length_append, List.length_drop]
          omega
        · simp only [World.setRow, Array.getElem?_modify]
          rw [if_neg (fun e => hk e.symm)]
      · refine grow _ cap cs h4 (run_firstCells_some _ _ _ _ _ _ _ (by rw [hlv, hsz]) (fun j u hu => ?_)) (by omega)
        rw [add_none]
        have hb' : w.drew.heap[qb]? = some (.cells (cs ++ rest).toArray e (0, 0)) := hblk
        rw [cell_of_row w.drew qb (0 + j) _ e (0, 0) hb', Nat.zero_add, List.getElem?_toArray, List.getElem?_append_left (List.getElem?_eq_some_iff.1 hu).1]
        exact hu
theorem WL.appendT {t : TypeId} {z : Value} {s x : Operand} {bytes m c : Nat} {v : Value} {xs ys : List α} {p : Option Addr} {tk : Option Ow} (id : Nat) (hg : guardOK ops fr ⟨dst, .call ⟨.builtin .append, #[s, x], #[t, t]⟩, ty, pos, af, g⟩ true) (hd : dstOK N dst)
    (ht : P.underlying t = some (.slice e)) (hE : ElT P e z r.size bytes) (hzs : z.cells.size = r.size) (hby : bytes ≤ 100000) (hs : fr.ev s = some v) (hx : fr.ev x = some (.slice p m c)) (hv : RowR r e G v xs tk) (hid : L.get id = tk)
    (hy : SlR r G (.slice p m c) ys) (hsm : (xs ++ ys).length ≤ small)
    (k : ∀ p' cap' tk', RowR r e G (.slice p' (xs ++ ys).length cap') (xs ++ ys) tk' → WL P N ops Q l (putFr dst (.slice p' (xs ++ ys).length cap') fr) (St w0 G0 G ((id, tk') :: L))) :
    WL P N ops Q (⟨dst, .call ⟨.builtin .append, #[s, x], #[t, t]⟩, ty, pos, af, g⟩ :: l) fr (St w0 G0 G L) := by
  refine WL.yr (Φ := fun v' w => ∃ tk', RowR r e G v' (xs ++ ys) tk' ∧ St w0 G0 G ((id, tk') :: L) w) hg (fun a w ha hs' => ?_) hd (fun v a w ha ⟨tk', h2, h4⟩ => ?_)
  · obtain ⟨v', tk', w', hr, h2, h4⟩ := run_append_T (w0 := w0) (G0 := G0) ty ht hE hzs hby hv hid hy hsm w hs'
    have : (execOp a.eval ⟨dst, .call ⟨.builtin .append, #[s, x], #[t, t]⟩, ty, pos, af, g⟩).run P w = .ok (.value v') w' := by
      simp [execOp, resolve, invoke, builtin, ha.ev hs, ha.ev hx, hr]
    rw [this]
    exact ⟨tk', h2, h4⟩
  · obtain ⟨p', cap', rfl⟩ := h2.form
    exact k p' cap' tk' h2 a w ha h4
end
end Go.EL
