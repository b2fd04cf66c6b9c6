/- Slices: rows of the call's own that grow by append; slices that are read. No condition. -/
import Derived.Test.YtdpmpefjplfgbaaElm
namespace Go.EL
open Go Go.RowKit Go.Proofs

/-- A row of the call's own: its block, its capacity in elements, its cells. -/
structure Row where
  b : Nat
  cap : Nat
  cur : Array Value
def rowL (id : Nat) (e : TypeId) : Option Row → Lo
  | none => []
  | some r => [(id, r.b, .cells r.cur e (0, 0))]
def rowV : Option Row → Nat → Value
  | none, _ => .slice none 0 0
  | some r, n => .slice (some ⟨r.b, 0, none⟩) n r.cap
def RowOk (size : Nat) (ov : Option Row) (n : Nat) (xs : List Value) : Prop :=
  xs.length = n * size ∧ match ov with
  | none => n = 0
  | some r => n ≤ r.cap ∧ r.cap ≤ maxLen ∧ r.cur.size = r.cap * size ∧ r.cur.toList.take (n * size) = xs

theorem Lo.sub_swap {L1 B : Lo} {id : Nat} {x : Nat × Obj} (h : L1.get id = none) : Lo.sub (L1 ++ [(id, x)]) ((id, x) :: (L1 ++ B)) := by
  intro i y hy
  rw [Lo.get_append] at hy
  rw [Lo.get_cons, Lo.get_append]
  by_cases e : id = i
  · subst e
    rw [h] at hy
    simpa [Lo.get] using hy
  · rw [if_neg e]
    cases h1 : L1.get i with
    | some z => rw [h1] at hy; simpa using hy
    | none =>
      rw [h1] at hy
      simp only [Option.none_or] at hy
      rw [Lo.get_cons, if_neg e] at hy
      simp [Lo.get] at hy
theorem Lo.sub_left (L1 B : Lo) : Lo.sub L1 (L1 ++ B) := fun i x h => by rw [Lo.get_append, h]; rfl
theorem rowL_get {L1 : Lo} {id : Nat} {e : TypeId} {r : Row} (h : L1.get id = none) : (L1 ++ rowL id e (some r)).get id = some (r.b, .cells r.cur e (0, 0)) := by
  rw [Lo.get_append, h]
  simp [rowL, Lo.get]

section
variable {P : Program} {N : Nat} {Q : Post} {fr : Fr} {ops : Array Oper} {l : List Oper} {dst : Option Nat} {ty : TypeId} {pos : String} {af : Array Edge} {g : Option (Nat × Bool)}
variable {w0 : Bs} {G0 G : Mem} {L : Lo}

/-- A type of elements: its zero value, cells, bytes. -/
def ElT (P : Program) (e : TypeId) (z : Value) (size bytes : Nat) : Prop := (P.info? e).map (fun i => (i.zero, i.size, i.bytes)) = some (some z, size, bytes)
theorem ElT.parts {e : TypeId} {z : Value} {size bytes : Nat} (h : ElT P e z size bytes) : ∃ i, P.info? e = some i ∧ i.zero = some z ∧ i.size = size ∧ i.bytes = bytes := by
  unfold ElT at h
  cases hq : P.info? e with
  | none => simp [hq] at h
  | some i => simp only [hq, Option.map_some, Option.some.injEq, Prod.mk.injEq] at h; exact ⟨i, rfl, h⟩

/-- Where the cells of an appended slice lie. -/
def Src (S : Asrt) (p : Option Addr) (m : Nat) (news : List Value) : Prop := (m = 0 ∧ ∀ a, p = some a → ∃ sb so, a = ⟨sb, so, none⟩) ∨ ∃ sb so, p = some ⟨sb, so, none⟩ ∧ ∀ w, S w → ∀ (j : Nat) u, news[j]? = some u → w.cell? ⟨sb, so + j, none⟩ = some u
theorem Src.ofL {i b n : Nat} {c : Array Value} {t : TypeId} (hi : L.get i = some (b, .cells c t (0, 0))) : Src (St w0 G0 G L) (some ⟨b, 0, none⟩) n c.toList :=
  .inr ⟨b, 0, rfl, fun w hs j u hu => by rw [cell_of_row w b (0 + j) c t (0, 0) (hs.loc i b _ hi).1]; simpa using hu⟩
theorem Src.ofG {b off n : Nat} {news : List Value} (h : ∀ (j : Nat) u, news[j]? = some u → G b (off + j) = some u) : Src (St w0 G0 G L) (some ⟨b, off, none⟩) n news :=
  .inr ⟨b, off, rfl, fun w hs j u hu => hs.imm _ _ _ (h j u hu)⟩

theorem run_append_row {t e : TypeId} {z : Value} {size bytes n m c : Nat} {ov : Option Row} {xs news : List Value} {p : Option Addr} {L1 : Lo} {id : Nat} (ty : TypeId) (ht : P.underlying t = some (.slice e)) (hE : ElT P e z size bytes) (hzs : z.cells.size = size)
    (hid : L1.get id = none) (hok : RowOk size ov n xs) (hsrc : Src (St w0 G0 G (L1 ++ rowL id e ov)) p m news) (hl : news.length = m * size) (h1 : ∀ u ∈ news, u.oneCell' = true) (h63 : n + m ≤ maxLen) (hby : (n + m) * bytes ≤ 140737488355328)
    (w : World) (hs : St w0 G0 G (L1 ++ rowL id e ov) w) :
    ∃ ov' w', (Builtin.append_ #[t, t] ty #[rowV ov n, .slice p m c]).run P w = .ok (rowV ov' (n + m)) w' ∧ RowOk size ov' (n + m) (xs ++ news) ∧ St w0 G0 G (L1 ++ rowL id e ov') w' := by
  obtain ⟨i, hi, hz, hsz, hbt⟩ := hE.parts
  subst hsz hbt
  have hsmall : n + m ≤ 9223372036854775807 := by simp only [maxLen] at h63; omega
  have hlen : (xs ++ news).length = (n + m) * i.size := by rw [List.length_append, hok.1, hl, Nat.add_mul]
  -- a new block
  have newRow : ∀ (w1 : World) (cells : Array Value), St w0 G0 G (L1 ++ rowL id e ov) w1 → St w0 G0 G (L1 ++ rowL id e (some ⟨w1.heap.size, 0, cells⟩)) (w1.alloc (.cells cells e)) := fun w1 cells h1 =>
    (h1.push id (.cells cells e)).weaken (Lo.sub_swap hid)
  have newRow' : ∀ (w1 : World) (cells : Array Value) (cap : Nat), St w0 G0 G (L1 ++ rowL id e ov) w1 → St w0 G0 G (L1 ++ rowL id e (some ⟨w1.heap.size, cap, cells⟩)) (w1.alloc (.cells cells e)) := fun w1 cells cap h1 => newRow w1 cells h1
  rcases hsrc with ⟨hm0, hp0⟩ | ⟨sb, so, hp, hcell⟩
  · -- nothing is appended
    subst hm0
    have hnil : news = [] := List.eq_nil_of_length_eq_zero (by simpa using hl)
    subst hnil
    refine ⟨ov, w, ?_, by simpa using hok, hs⟩
    cases ov with
    | none =>
      have hn0 : n = 0 := hok.2
      subst hn0
      cases p with
      | none => simp [rowV, Builtin.append_, run_underlying ht, sizeOf, typeInfo, hi, Builtin.lenOf, Builtin.firstCells]
      | some a => simp [rowV, Builtin.append_, run_underlying ht, sizeOf, typeInfo, hi, Builtin.lenOf, Builtin.firstCells, loadCells, loadCellsFrom]
    | some r =>
      have hnc : n ≤ r.cap := hok.2.1
      cases p with
      | none => simp [rowV, Builtin.append_, run_underlying ht, sizeOf, typeInfo, hi, Builtin.lenOf, Builtin.firstCells, hnc, storeCells]
      | some a => simp [rowV, Builtin.append_, run_underlying ht, sizeOf, typeInfo, hi, Builtin.lenOf, Builtin.firstCells, hnc, storeCells, loadCells, loadCellsFrom]
  · subst hp
    have hnews : ∀ j u, news[j]? = some u → w.cell? ((⟨sb, so, none⟩ : Addr).add j) = some u := fun j u hu => by rw [add_none]; exact hcell w hs j u hu
    cases ov with
    | none =>
      have hn0 : n = 0 := hok.2
      subst hn0
      have hx0 : xs = [] := List.eq_nil_of_length_eq_zero (by simpa using hok.1)
      subst hx0
      by_cases hm : 0 < m
      · have hr := run_append_nil (P := P) w t ty e i z ht hi hz ⟨sb, so, none⟩ m c news hl hnews hm (by omega) (by simp only [Nat.zero_add] at hby; omega)
        have hcap := grownCap_ge w m 0 e
        have hmax := grownCap_le_maxLen w m 0 e (by omega)
        refine ⟨some ⟨w.heap.size, grownCap w m 0 e, news.toArray ++ Builtin.zeroCells z.cells (grownCap w m 0 e - m)⟩, _, by simpa [rowV] using hr, ⟨by simpa using hlen, by simpa using hcap, hmax, ?_, ?_⟩, ?_⟩
        · simp only [Array.size_append, List.size_toArray, hl, size_zeroCells, hzs, ← Nat.add_mul]
          congr 1; omega
        · simp only [Nat.zero_add, Array.toList_append, List.nil_append, ← hl]
          simp
        · have hs' : St w0 G0 G (L1 ++ rowL id e none) w.drew := hs.drew
          exact newRow' w.drew _ _ hs'
      · have hm0 : m = 0 := by omega
        subst hm0
        have hnil : news = [] := List.eq_nil_of_length_eq_zero (by simpa using hl)
        subst hnil
        exact ⟨none, w, by simp [rowV, Builtin.append_, run_underlying ht, sizeOf, typeInfo, hi, Builtin.lenOf, Builtin.firstCells, loadCells, loadCellsFrom], ⟨by simp, rfl⟩, hs⟩
    | some r =>
      obtain ⟨hx, hnc, hcm, hcs, htake⟩ := hok
      have hget : (L1 ++ rowL id e (some r)).get id = some (r.b, .cells r.cur e (0, 0)) := rowL_get hid
      have hblk := (hs.loc id r.b _ hget).1
      by_cases hroom : n + m ≤ r.cap
      · have hfit : n * i.size + news.length ≤ r.cur.size := by rw [hl, hcs, ← Nat.add_mul]; exact Nat.mul_le_mul_right _ hroom
        have hr := run_append_room (P := P) w t ty e i ht hi r.b n r.cap r.cur hblk ⟨sb, so, none⟩ m c news hl hnews h1 hroom hfit
        refine ⟨some ⟨r.b, r.cap, (r.cur.toList.take (n * i.size) ++ news ++ r.cur.toList.drop (n * i.size + news.length)).toArray⟩, _, hr, ⟨hlen, hroom, hcm, ?_, ?_⟩, ?_⟩
        · simp only [List.size_toArray, List.length_append, List.length_take, List.length_drop, Array.length_toList]
          omega
        · simp only
          rw [htake, ← hlen]
          exact List.take_left
        · refine St.weaken (hs.upd hget (o' := .cells (r.cur.toList.take (n * i.size) ++ news ++ r.cur.toList.drop (n * i.size + news.length)).toArray e (0, 0)) ?_ (fun k hk => ?_) rfl rfl rfl rfl (by simp [World.setRow])) (Lo.sub_swap hid)
          · simp [World.setRow, Array.getElem?_modify, hblk]
          · simp only [World.setRow, Array.getElem?_modify]
            rw [if_neg (fun e => hk e.symm)]
      · have holds : ∀ j v, xs[j]? = some v → w.cell? ((⟨r.b, 0, none⟩ : Addr).add j) = some v := fun j v hv => by
          rw [add_none, cell_of_row w r.b (0 + j) r.cur e (0, 0) hblk]
          rw [← htake] at hv
          rw [List.getElem?_take] at hv
          split at hv
          · simpa using hv
          · cases hv
        have hr := run_append_grow (P := P) w t ty e i z ht hi hz ⟨r.b, 0, none⟩ n r.cap xs hx holds ⟨sb, so, none⟩ m c news hl hnews (by omega) (by omega) (growslice_fits (by omega) hby)
        have hcap := grownCap_ge w (n + m) r.cap e
        have hmax := grownCap_le_maxLen w (n + m) r.cap e h63
        refine ⟨some ⟨w.heap.size, grownCap w (n + m) r.cap e, xs.toArray ++ news.toArray ++ Builtin.zeroCells z.cells (grownCap w (n + m) r.cap e - (n + m))⟩, _, hr, ⟨hlen, hcap, hmax, ?_, ?_⟩, ?_⟩
        · simp only [Array.size_append, List.size_toArray, hl, hx, size_zeroCells, hzs, ← Nat.add_mul]
          congr 1; omega
        · simp only [Array.toList_append]
          rw [← hlen]
          exact List.take_left
        · have hs' : St w0 G0 G (L1 ++ rowL id e (some r)) w.drew := hs.drew
          exact newRow' w.drew _ _ hs'

theorem WL.append {t e : TypeId} {z : Value} {s x : Operand} {size bytes n m c : Nat} {ov : Option Row} {xs news : List Value} {p : Option Addr} (id : Nat) (L1 : Lo) (hg : guardOK ops fr ⟨dst, .call ⟨.builtin .append, #[s, x], #[t, t]⟩, ty, pos, af, g⟩ true) (hd : dstOK N dst)
    (ht : P.underlying t = some (.slice e)) (hE : ElT P e z size bytes) (hzs : z.cells.size = size) (hs : fr.ev s = some (rowV ov n)) (hx : fr.ev x = some (.slice p m c)) (hL : ∀ w, St w0 G0 G L w → St w0 G0 G (L1 ++ rowL id e ov) w)
    (hid : L1.get id = none) (hok : RowOk size ov n xs) (hsrc : Src (St w0 G0 G (L1 ++ rowL id e ov)) p m news) (hl : news.length = m * size) (h1 : ∀ u ∈ news, u.oneCell' = true) (h63 : n + m ≤ maxLen) (hby : (n + m) * bytes ≤ 140737488355328)
    (k : ∀ ov', RowOk size ov' (n + m) (xs ++ news) → WL P N ops Q l (putFr dst (rowV ov' (n + m)) fr) (St w0 G0 G (L1 ++ rowL id e ov'))) : WL P N ops Q (⟨dst, .call ⟨.builtin .append, #[s, x], #[t, t]⟩, ty, pos, af, g⟩ :: l) fr (St w0 G0 G L) := by
  refine WL.yr (Φ := fun v w => ∃ ov', v = rowV ov' (n + m) ∧ RowOk size ov' (n + m) (xs ++ news) ∧ St w0 G0 G (L1 ++ rowL id e ov') w) hg (fun a w ha hs' => ?_) hd (fun v a w ha ⟨ov', h1, h2, h3⟩ => ?_)
  · obtain ⟨ov', w', hr, h2, h3⟩ := run_append_row (c := c) ty ht hE hzs hid hok hsrc hl h1 h63 hby w (hL w hs')
    have : (execOp a.eval ⟨dst, .call ⟨.builtin .append, #[s, x], #[t, t]⟩, ty, pos, af, g⟩).run P w = .ok (.value (rowV ov' (n + m))) w' := by
      simp [execOp, resolve, invoke, builtin, ha.ev hs, ha.ev hx, hr]
    rw [this]
    exact ⟨ov', rfl, h2, h3⟩
  · subst h1
    exact k ov' h2 a w ha h3

/-- A slice literal. -/
theorem WL.buildSl {t e : TypeId} {len : Nat} {parts : Array (Nat × Operand)} {vs : Array (Nat × Value)} {cells : Array Value} (i : Nat) (hg : guardOK ops fr ⟨dst, .buildSlice t len parts, ty, pos, af, g⟩ true) (hd : dstOK N dst)
    (hps : fr.evs (parts.toList.map (·.2)) = some (vs.toList.map (·.2))) (hix : parts.toList.map (·.1) = vs.toList.map (·.1))
    (h : ∀ w, (Instr.buildSlice t len vs).run P w = .ok (.slice (some ⟨w.heap.size, 0, none⟩) len len) (w.alloc (.cells cells e)))
    (k : ∀ b, WL P N ops Q l (putFr dst (.slice (some ⟨b, 0, none⟩) len len) fr) (St w0 G0 G ((i, b, .cells cells e (0, 0)) :: L))) : WL P N ops Q (⟨dst, .buildSlice t len parts, ty, pos, af, g⟩ :: l) fr (St w0 G0 G L) := by
  refine WL.yr (Φ := fun v w => ∃ b, v = .slice (some ⟨b, 0, none⟩) len len ∧ St w0 G0 G ((i, b, .cells cells e (0, 0)) :: L) w) hg (fun a w ha hs => ?_) hd (fun v a w ha ⟨b, hb, hs⟩ => ?_)
  · have h1 := ha.evs _ _ hps
    have h2 : (parts.map fun p => (p.1, a.eval p.2)) = vs := by
      apply Array.ext'
      simp only [Array.toList_map]
      have hl : parts.toList.length = vs.toList.length := by have := congrArg List.length hix; simpa using this
      generalize parts.toList = ps at *
      generalize vs.toList = us at *
      clear h hps
      induction ps generalizing us with
      | nil => cases us <;> simp_all
      | cons p ps ih =>
        cases us with
        | nil => simp at hl
        | cons q us =>
          simp only [List.map_cons, List.cons.injEq] at hix h1 ⊢
          exact ⟨Prod.ext hix.1 h1.1, ih us hix.2 h1.2 (by simpa using hl)⟩
    have h3 : (parts.map fun (i, x) => (i, a.eval x)) = vs := h2
    have : (execOp a.eval ⟨dst, .buildSlice t len parts, ty, pos, af, g⟩).run P w = .ok (.value (.slice (some ⟨w.heap.size, 0, none⟩) len len)) (w.alloc (.cells cells e)) := by
      simp only [execOp, h3]
      simp [h w]
    rw [this]
    exact ⟨_, rfl, hs.push i _⟩
  · subst hb
    exact k b a w ha hs
end

/-! ### Slices of monomials -/
def flat (l : List M) : List Value := l.flatMap fun f => (vecA f).toList
theorem flat_length : ∀ (l : List M), (flat l).length = l.length * 8
  | [] => rfl
  | f :: r => by
    have := flat_length r
    simp only [flat, List.flatMap_cons, List.length_append, List.length_cons] at this ⊢
    rw [this]
    simp [vecA]
    omega
theorem flat_append (l r : List M) : flat (l ++ r) = flat l ++ flat r := by simp [flat]
theorem flat_one (f : M) : flat [f] = (vecA f).toList := by simp [flat]
theorem flat_get : ∀ (l : List M) (i : Nat) (h : i < l.length) (j : Fin 8), (flat l)[i * 8 + j.val]? = some (.int .i64 (l[i] j))
  | f :: r, 0, _, j => by
    simp only [flat, List.flatMap_cons, Nat.zero_mul, Nat.zero_add]
    rw [List.getElem?_append_left (by simp [vecA])]
    have := vecA_get f j.isLt
    simpa using this
  | f :: r, i + 1, h, j => by
    simp only [flat, List.flatMap_cons]
    rw [List.getElem?_append_right (by simp [vecA]; omega)]
    have := flat_get r i (by simpa using h) j
    simp only [flat] at this
    simp only [List.getElem_cons_succ]
    rw [← this]
    congr 1
    simp [vecA]
    omega
theorem flat_one_cell (l : List M) : ∀ u ∈ flat l, u.oneCell' = true := by
  intro u hu
  simp only [flat, List.mem_flatMap] at hu
  obtain ⟨f, _, h⟩ := hu
  simp only [vecA, List.mem_cons, List.not_mem_nil, or_false] at h
  rcases h with h | h | h | h | h | h | h | h <;> subst h <;> rfl

/-- A slice that reads as a list of monomials. -/
def SlM (G : Mem) (v : Value) (l : List M) : Prop :=
  ∃ p cap b off, v = .slice p l.length cap ∧ l.length ≤ 9223372036854775807 ∧ (∀ a, p = some a → a = ⟨b, off, none⟩) ∧ (0 < l.length → p = some ⟨b, off, none⟩) ∧ ∀ (i : Nat) (h : i < l.length) (j : Fin 8), G b (off + i * 8 + j.val) = some (.int .i64 (l[i] j))
theorem SlM.mono {G G' : Mem} {v : Value} {l : List M} (h : SlM G v l) (hle : Mem.le G G') : SlM G' v l := by
  obtain ⟨p, cap, b, off, h1, h5, h2, h3, h4⟩ := h
  exact ⟨p, cap, b, off, h1, h5, h2, h3, fun i hi j => hle _ _ _ (h4 i hi j)⟩
theorem SlM.nil (G : Mem) : SlM G (.slice none 0 0) [] := ⟨none, 0, 0, 0, rfl, by simp, fun _ h => (by cases h), fun h => (by simp at h), fun i h => (by simp at h)⟩
/-- The cells of an element. -/
theorem SlM.cells {G : Mem} {b off : Nat} {l : List M} (h : ∀ (i : Nat) (h : i < l.length) (j : Fin 8), G b (off + i * 8 + j.val) = some (.int .i64 (l[i] j))) {i : Nat} (hi : i < l.length) :
    ∀ (j : Nat) (v : Value), (vecA l[i])[j]? = some v → G b (off + i * 8 + j) = some v := by
  intro j v hv
  have hj : j < 8 := by
    have := (Array.getElem?_eq_some_iff.1 hv).1
    simpa [vecA] using this
  rw [vecA_get _ hj] at hv
  rw [← hv]
  exact h i hi ⟨j, hj⟩
/-- The cells of a slice of monomials, as a source of an append. -/
theorem SlM.src {G : Mem} {b off : Nat} {l : List M} (h : ∀ (i : Nat) (h : i < l.length) (j : Fin 8), G b (off + i * 8 + j.val) = some (.int .i64 (l[i] j))) :
    ∀ (j : Nat) (v : Value), (flat l)[j]? = some v → G b (off + j) = some v := by
  intro j v hv
  have hj : j < l.length * 8 := by
    have := (List.getElem?_eq_some_iff.1 hv).1
    rwa [flat_length] at this
  have h8 : j % 8 < 8 := Nat.mod_lt _ (by omega)
  have e : j = j / 8 * 8 + j % 8 := by omega
  rw [e] at hv ⊢
  rw [flat_get l (j / 8) (by omega) ⟨j % 8, h8⟩] at hv
  rw [← hv, ← Nat.add_assoc]
  exact h (j / 8) (by omega) ⟨j % 8, h8⟩
/-- A row that is given away reads as the list. -/
theorem SlM.ofRow {G : Mem} {r : Row} {l : List M} (h : RowOk 8 (some r) l.length (flat l)) : SlM (Mem.row G r.b r.cur (l.length * 8)) (rowV (some r) l.length) l := by
  obtain ⟨_, h1, h2, h3, h4⟩ := h
  refine ⟨some ⟨r.b, 0, none⟩, r.cap, r.b, 0, rfl, (by simp only [maxLen] at h2; omega), fun a h => (by cases h; rfl), fun _ => rfl, fun i hi j => ?_⟩
  have hlt : i * 8 + j.val < l.length * 8 := by omega
  rw [Nat.zero_add, Mem.row_at hlt]
  have := flat_get l i hi j
  rw [← h4, List.getElem?_take, if_pos hlt] at this
  simpa using this

section
variable {N : Nat} {Q : Post} {fr : Fr} {w0 : Bs} {G0 G : Mem} {e : Exit}
/-- The row is given away: behind it the known cells are more. -/
theorem WE.give {L1 : Lo} {id : Nat} {et : TypeId} {ov : Option Row} {l : List M} (hid : L1.get id = none) (h0 : w0.L.get id = none) (hok : RowOk 8 ov l.length (flat l)) (k : ∀ G', Mem.le G G' → SlM G' (rowV ov l.length) l → WE N Q e fr (St w0 G0 G' L1)) :
    WE N Q e fr (St w0 G0 G (L1 ++ rowL id et ov)) := by
  intro a w ha hs
  cases ov with
  | none =>
    have hn : l = [] := List.eq_nil_of_length_eq_zero hok.2
    subst hn
    exact k G (Mem.le_refl G) (SlM.nil G) a w ha (by simpa [rowL] using hs)
  | some r =>
    obtain ⟨h1, h2⟩ := hs.freeze (n := l.length * 8) (rowL_get hid) h0 L1 (Lo.sub_left _ _) hid
    exact k _ h2 (SlM.ofRow hok) a w ha h1
end
end Go.EL
