/- Slices: appending, literals, parts of slices; what calls return. No condition. -/
import Derived.Test.YtbdknlblnfnkkaaElj
import Derived.Deep.AppendSrc
namespace Go.EL
open Go Go.RowKit Go.Proofs

/-- The right to append to a slice: no room behind it, or the room is the call's own. -/
def Tok (size : Nat) (e : TypeId) (v : Value) (n : Nat) : Option Ow → Prop
  | none => ∃ p, v = .slice p n n
  | some x => ∃ cap c, v = .slice (some ⟨x.b, 0, none⟩) n cap ∧ x.o = .cells c e (0, 0) ∧ x.m = n * size ∧ c.size = cap * size ∧ cap ≤ maxLen ∧ n ≤ cap
/-- An element type: its zero, its cells, its bytes. -/
def ElT (P : Program) (e : TypeId) (z : Value) (size bytes : Nat) : Prop := (P.info? e).map (fun i => (i.zero, i.size, i.bytes)) = some (some z, size, bytes)
theorem ElT.parts {P : Program} {e : TypeId} {z : Value} {size bytes : Nat} (h : ElT P e z size bytes) : ∃ i, P.info? e = some i ∧ i.zero = some z ∧ i.size = size ∧ i.bytes = bytes := by
  unfold ElT at h
  cases hi : P.info? e with
  | none => rw [hi] at h; cases h
  | some i => rw [hi] at h; simp at h; exact ⟨i, rfl, h.1, h.2.1, h.2.2⟩
def small : Nat := 1000000000
theorem Lo.sub_dup {L : Lo} {i : Nat} {x y : Option Ow} : Lo.sub ((i, x) :: L) ((i, x) :: (i, y) :: L) := by
  intro k z hk
  rw [Lo.get_cons] at hk ⊢
  split at hk
  · rename_i e; rw [if_pos e]; exact hk
  · rename_i e; rw [if_neg e, Lo.get_cons, if_neg e]; exact hk

section
variable {P : Program} {N : Nat} {Q : Post} {fr : Fr} {S : Asrt} {ops : Array Oper} {l : List Oper} {dst : Option Nat} {ty : TypeId} {pos : String} {af : Array Edge} {g : Option (Nat × Bool)}
variable {w0 : Bs} {G0 G : Mem} {L : Lo} {α : Type} {r : Rp α}

theorem SlR.form {v : Value} {xs : List α} (h : SlR r G v xs) : ∃ p cap, v = .slice p xs.length cap := by
  obtain ⟨p, cap, cs, h1, _⟩ := h
  exact ⟨p, cap, h1⟩
theorem Mem.row_new {b : Nat} {cs : List Value} {rest : Array Value} {j : Nat} {u : Value} {n : Nat} (hn : cs.length = n) (h : cs[j]? = some u) : Mem.row G b (cs.toArray ++ rest) 0 n b (0 + j) = some u := by
  have hj := (List.getElem?_eq_some_iff.1 h).1
  rw [Nat.zero_add, Mem.row_at (Nat.zero_le _) (by omega), Array.getElem?_append_left (by simpa using hj)]
  simpa using h

theorem run_append_R {t e : TypeId} {z : Value} {bytes m c : Nat} {xs ys : List α} {v : Value} {p : Option Addr} {id : Nat} {tk : Option Ow} (ty : TypeId) (ht : P.underlying t = some (.slice e)) (hE : ElT P e z r.size bytes) (hzs : z.cells.size = r.size) (hby : bytes ≤ 100000)
    (hv : SlR r G v xs) (hid : L.get id = tk) (h0 : w0.L.get id = none) (htk : Tok r.size e v xs.length tk) (hx : SlR r G (.slice p m c) ys) (hsm : (xs ++ ys).length ≤ small)
    (w : World) (hs : St w0 G0 G L w) :
    ∃ v' tk' G' w', (Builtin.append_ #[t, t] ty #[v, .slice p m c]).run P w = .ok v' w' ∧ Mem.le G G' ∧ SlR r G' v' (xs ++ ys) ∧ Tok r.size e v' (xs ++ ys).length tk' ∧ St w0 G0 G' ((id, tk') :: L) w' := by
  obtain ⟨i, hi, hz, hsz, hbt⟩ := hE.parts
  obtain ⟨px, capx, ds, hx1, hx2, hx3, hx4, hx5, hx6⟩ := hx
  simp only [Value.slice.injEq] at hx1
  obtain ⟨rfl, rfl, rfl⟩ := hx1
  obtain ⟨pv, cap, cs, hv1, hv2, hv3, hv4, hv5, hv6⟩ := hv
  subst hv1
  have hlx := hx5.len
  have hlv := hv5.len
  simp only [List.length_append, small] at hsm
  have hmaxL : xs.length + ys.length ≤ maxLen := by simp only [maxLen]; omega
  have hall : RepL r G (cs ++ ds) (xs ++ ys) := hv5.append hx5
  have hb1 : (xs.length + ys.length) * bytes ≤ 140737488355328 := by
    have : (xs.length + ys.length) * bytes ≤ 1000000000 * 100000 := Nat.mul_le_mul (by omega) hby
    omega
  by_cases hm : ys.length = 0
  · -- nothing is appended
    have hy : ys = [] := List.eq_nil_of_length_eq_zero hm
    subst hy
    simp only [List.length_nil, List.append_nil] at *
    have hnc : tk = none → xs.length = cap := fun e => by subst e; obtain ⟨q, hq⟩ := htk; cases hq; rfl
    have hle : xs.length ≤ cap := by
      cases tk with
      | none => exact Nat.le_of_eq (hnc rfl)
      | some x => obtain ⟨cap', c', h1, _, _, _, _, h6⟩ := htk; cases h1; exact h6
    refine ⟨_, tk, G, w, ?_, Mem.le_refl G, ⟨pv, cap, cs, rfl, hv2, hv3, hv4, hv5, hv6⟩, htk, hs.weaken (Lo.sub_cons hid (Lo.sub_refl _))⟩
    cases hpv : pv with
    | none =>
      have : ¬ 0 < xs.length := fun h => by have := hv4 h; rw [hpv] at this; cases this
      cases p with
      | none =>
        by_cases hc0 : xs.length ≤ cap
        · simp [Builtin.append_, run_underlying ht, sizeOf, typeInfo, hi, Builtin.lenOf, Builtin.firstCells, show xs.length = 0 by omega]
        · omega
      | some a => simp [Builtin.append_, run_underlying ht, sizeOf, typeInfo, hi, Builtin.lenOf, Builtin.firstCells, loadCells, loadCellsFrom, show xs.length = 0 by omega]
    | some a =>
      cases p with
      | none => simp [Builtin.append_, run_underlying ht, sizeOf, typeInfo, hi, Builtin.lenOf, Builtin.firstCells, hle, storeCells]
      | some a => simp [Builtin.append_, run_underlying ht, sizeOf, typeInfo, hi, Builtin.lenOf, Builtin.firstCells, hle, storeCells, loadCells, loadCellsFrom]
  · have hp := hx4 (by omega)
    obtain ⟨pa, hpa⟩ := Option.isSome_iff_exists.1 hp
    subst hpa
    obtain ⟨sb, so, ss⟩ := pa
    have hss := hx3 _ rfl
    dsimp only at hss
    subst hss
    have hx6 : ∀ j u, ds[j]? = some u → G sb (so + j) = some u := hx6
    have hnews : ∀ j u, ds[j]? = some u → w.cell? ((⟨sb, so, none⟩ : Addr).add j) = some u := fun j u hu => by rw [add_none]; exact hs.imm _ _ _ (hx6 j u hu)
    have hone := hx5.one
    have hlx' : ds.length = ys.length * i.size := by rw [hsz]; exact hlx
    have hlv' : cs.length = xs.length * i.size := by rw [hsz]; exact hlv
    -- a new block holds all
    have new : ∀ (cap' : Nat), xs.length + ys.length ≤ cap' → cap' ≤ maxLen → ∃ tk' G', Mem.le G G' ∧ SlR r G' (.slice (some ⟨w.heap.size, 0, none⟩) (xs.length + ys.length) cap') (xs ++ ys) ∧ Tok r.size e (.slice (some ⟨w.heap.size, 0, none⟩) (xs.length + ys.length) cap') (xs ++ ys).length tk' ∧
        St w0 G0 G' ((id, tk') :: L) (w.drew.alloc (.cells ((cs ++ ds).toArray ++ Builtin.zeroCells z.cells (cap' - (xs.length + ys.length))) e)) := by
      intro cap' h1 h2
      have hsd : St w0 G0 G L w.drew := hs.drew
      have h3 := hsd.push id (.cells ((cs ++ ds).toArray ++ Builtin.zeroCells z.cells (cap' - (xs.length + ys.length))) e)
      obtain ⟨h4, h5⟩ := h3.know (i := id) (n := (xs.length + ys.length) * r.size) (by rw [Lo.get_cons, if_pos rfl]) h0 (Nat.zero_le _)
      have hlen : (cs ++ ds).length = (xs.length + ys.length) * r.size := by rw [List.length_append, hlv, hlx, Nat.add_mul]
      refine ⟨_, _, h5, ⟨_, _, cs ++ ds, by rw [List.length_append], by rw [List.length_append]; simp only [maxLen] at h2; omega, fun a ha => by cases ha; rfl, fun _ => rfl, hall.mono h5, fun j u hu => Mem.row_new hlen hu⟩, ?_, h4.weaken Lo.sub_dup⟩
      refine ⟨cap', _, by rw [List.length_append]; rfl, rfl, by rw [List.length_append], ?_, h2, by rw [List.length_append]; exact h1⟩
      simp only [Array.size_append, List.size_toArray, hlen, size_zeroCells, hzs, ← Nat.add_mul]
      congr 1; omega
    have grow : ∀ (hg : cap < xs.length + ys.length), ∃ v' tk' G' w', (Builtin.append_ #[t, t] ty #[.slice pv xs.length cap, .slice (some ⟨sb, so, none⟩) ys.length c]).run P w = .ok v' w' ∧ Mem.le G G' ∧ SlR r G' v' (xs ++ ys) ∧ Tok r.size e v' (xs ++ ys).length tk' ∧ St w0 G0 G' ((id, tk') :: L) w' := by
      intro hg
      have hcap := grownCap_ge w (xs.length + ys.length) cap e
      have hmax := grownCap_le_maxLen w (xs.length + ys.length) cap e hmaxL
      obtain ⟨tk', G', k1, k2, k3, k4⟩ := new _ hcap hmax
      refine ⟨_, tk', G', _, ?_, k1, k2, k3, k4⟩
      have hsrc := Src.ofSlice (P := P) w (size := i.size) ht ⟨sb, so, none⟩ ys.length c ds hlx' hnews hone
      have hold : (Builtin.firstCells i.size xs.length (.slice pv xs.length cap)).run P w.drew = .ok cs.toArray w.drew := by
        cases hpv : pv with
        | none =>
          have : ¬ 0 < xs.length := fun h => by have := hv4 h; rw [hpv] at this; cases this
          have hc0 : cs = [] := List.eq_nil_of_length_eq_zero (by rw [hlv, show xs.length = 0 by omega, Nat.zero_mul])
          rw [hc0]
          exact run_firstCells_none _ _ _ _ _
        | some a =>
          have ha := hv3 a hpv
          obtain ⟨ab, ao, ap⟩ := a
          dsimp only at ha
          subst ha
          subst hpv
          exact run_firstCells_some _ _ _ _ _ _ _ hlv' (fun j u hu => by rw [add_none]; exact hs.drew.imm _ _ _ (hv6 j u hu))
      have := run_append_grow_src (P := P) w t t ty e i z ht hi hz pv xs.length cap cs hold _ ys.length ds hsrc hg (by omega) (growslice_fits hg (by rw [hbt]; exact hb1))
      exact this
    cases tk with
    | none =>
      obtain ⟨q, hq⟩ := htk
      cases hq
      exact grow (by omega)
    | some x =>
      obtain ⟨cap', c', h1, h2, h3, h4, h5, h6⟩ := htk
      cases h1
      by_cases hroom : xs.length + ys.length ≤ cap
      · obtain ⟨xb, xo, xm⟩ := x
        dsimp only at h2 h3
        subst h2 h3
        have hblk := (hs.loc id _ hid).1
        dsimp only at hblk
        have hfit : xs.length * i.size + ds.length ≤ c'.size := by rw [hlx', h4, hsz, ← Nat.add_mul]; exact Nat.mul_le_mul_right _ hroom
        have hr := run_append_room (P := P) w t ty e i ht hi xb xs.length cap c' hblk ⟨sb, so, none⟩ ys.length c ds hlx' hnews hone hroom hfit
        rw [hsz] at hr hfit
        have hsl : (c'.toList.take (xs.length * r.size) ++ ds ++ c'.toList.drop (xs.length * r.size + ds.length)).length = c'.size := by
          simp only [List.length_append, List.length_take, List.length_drop, Array.length_toList]
          omega
        -- the block turned
        have hst1 := hs.upd (w' := w.setRow xb (c'.toList.take (xs.length * r.size) ++ ds ++ c'.toList.drop (xs.length * r.size + ds.length)).toArray) (o' := .cells (c'.toList.take (xs.length * r.size) ++ ds ++ c'.toList.drop (xs.length * r.size + ds.length)).toArray e (0, 0)) hid (by simp [World.setRow, Array.getElem?_modify, hblk]) (Nat.le_refl _)
          (fun k v' hk hv' => by
            have h1 := hs.imm _ _ _ hv'
            dsimp only at h1 hk
            rw [cell_of_row w xb k c' e (0, 0) hblk] at h1
            rw [cell_of_row _ xb k _ e (0, 0) (by simp [World.setRow, Array.getElem?_modify, hblk]; rfl)]
            rw [List.getElem?_toArray, List.getElem?_append_left (by simp only [List.length_take, Array.length_toList]; omega), List.getElem?_take, if_pos hk]
            simpa using h1)
          (fun k hk => by
            simp only [World.setRow, Array.getElem?_modify]
            rw [if_neg (fun e => hk e.symm)]) rfl rfl rfl rfl (by simp [World.setRow])
        obtain ⟨h7, h8⟩ := hst1.know (i := id) (n := (xs.length + ys.length) * r.size) (by rw [Lo.get_cons, if_pos rfl]) h0 (by dsimp only; rw [Nat.add_mul]; omega)
        refine ⟨_, _, _, _, hr, h8, ⟨_, _, cs ++ ds, by rw [List.length_append], by rw [List.length_append]; simp only [maxLen] at h5; omega, fun a ha => by cases ha; rfl, fun _ => rfl, hall.mono h8, fun j u hu => ?_⟩, ?_, h7.weaken Lo.sub_dup⟩
        · by_cases hj : j < cs.length
          · rw [List.getElem?_append_left hj] at hu
            exact h8 _ _ _ (hv6 j u hu)
          · have hj2 : j < (cs ++ ds).length := (List.getElem?_eq_some_iff.1 hu).1
            rw [List.length_append] at hj2
            rw [List.getElem?_append_right (by omega)] at hu
            show Mem.row G xb _ _ _ xb (0 + j) = some u
            rw [Nat.zero_add, Mem.row_at (by dsimp only; rw [← hlv]; omega) (by rw [Nat.add_mul, ← hlv, ← hlx]; exact hj2)]
            rw [List.getElem?_toArray, List.append_assoc, List.getElem?_append_right (by simp only [List.length_take, Array.length_toList]; omega), List.getElem?_append_left (by simp only [List.length_take, Array.length_toList]; omega)]
            rw [← hu]
            congr 1
            simp only [List.length_take, Array.length_toList]
            omega
        · exact ⟨cap, _, by rw [List.length_append], rfl, by rw [List.length_append], by rw [List.size_toArray, hsl, h4], h5, by rw [List.length_append]; exact hroom⟩
      · exact grow (by omega)

theorem WL.appendR {t e : TypeId} {z : Value} {s x : Operand} {bytes m c : Nat} {v : Value} {xs ys : List α} {p : Option Addr} {tk : Option Ow} (id : Nat) (hg : guardOK ops fr ⟨dst, .call ⟨.builtin .append, #[s, x], #[t, t]⟩, ty, pos, af, g⟩ true) (hd : dstOK N dst)
    (ht : P.underlying t = some (.slice e)) (hE : ElT P e z r.size bytes) (hzs : z.cells.size = r.size) (hby : bytes ≤ 100000) (hs : fr.ev s = some v) (hx : fr.ev x = some (.slice p m c)) (hv : SlR r G v xs) (hid : L.get id = tk) (h0 : w0.L.get id = none) (htk : Tok r.size e v xs.length tk)
    (hy : SlR r G (.slice p m c) ys) (hsm : (xs ++ ys).length ≤ small)
    (k : ∀ p' cap' tk' G', Mem.le G G' → SlR r G' (.slice p' (xs ++ ys).length cap') (xs ++ ys) → Tok r.size e (.slice p' (xs ++ ys).length cap') (xs ++ ys).length tk' → WL P N ops Q l (putFr dst (.slice p' (xs ++ ys).length cap') fr) (St w0 G0 G' ((id, tk') :: L))) :
    WL P N ops Q (⟨dst, .call ⟨.builtin .append, #[s, x], #[t, t]⟩, ty, pos, af, g⟩ :: l) fr (St w0 G0 G L) := by
  refine WL.yr (Φ := fun v' w => ∃ tk' G', Mem.le G G' ∧ SlR r G' v' (xs ++ ys) ∧ Tok r.size e v' (xs ++ ys).length tk' ∧ St w0 G0 G' ((id, tk') :: L) w) hg (fun a w ha hs' => ?_) hd (fun v a w ha ⟨tk', G', h1, h2, h3, h4⟩ => ?_)
  · obtain ⟨v', tk', G', w', hr, h1, h2, h3, h4⟩ := run_append_R (w0 := w0) (G0 := G0) ty ht hE hzs hby hv hid h0 htk hy hsm w hs'
    have : (execOp a.eval ⟨dst, .call ⟨.builtin .append, #[s, x], #[t, t]⟩, ty, pos, af, g⟩).run P w = .ok (.value v') w' := by
      simp [execOp, resolve, invoke, builtin, ha.ev hs, ha.ev hx, hr]
    rw [this]
    exact ⟨tk', G', h1, h2, h3, h4⟩
  · obtain ⟨p', cap', rfl⟩ := h2.form
    exact k p' cap' tk' G' h1 h2 h3 a w ha h4
/-- A slice literal. -/
theorem WL.litR {t e : TypeId} {len : Nat} {parts : Array (Nat × Operand)} {vs : Array (Nat × Value)} {cs : List Value} (xs : List α) (hg : guardOK ops fr ⟨dst, .buildSlice t len parts, ty, pos, af, g⟩ true) (hd : dstOK N dst)
    (hps : fr.evs (parts.toList.map (·.2)) = some (vs.toList.map (·.2))) (hix : parts.toList.map (·.1) = vs.toList.map (·.1)) (hlen : xs.length = len) (hsm : len ≤ small)
    (h : ∀ w, (Instr.buildSlice t len vs).run P w = .ok (.slice (some ⟨w.heap.size, 0, none⟩) len len) (w.alloc (.cells cs.toArray e))) (hrep : RepL r G cs xs) {key : Nat} (hkey : L.get key = none) (h0 : w0.L.get key = none)
    (k : ∀ p G', Mem.le G G' → SlR r G' (.slice p len len) xs → WL P N ops Q l (putFr dst (.slice p len len) fr) (St w0 G0 G' L)) : WL P N ops Q (⟨dst, .buildSlice t len parts, ty, pos, af, g⟩ :: l) fr (St w0 G0 G L) := by
  refine WL.yr (Φ := fun v w => ∃ p G', v = .slice p len len ∧ Mem.le G G' ∧ SlR r G' (.slice p len len) xs ∧ St w0 G0 G' L w) hg (fun a w ha hs => ?_) hd (fun v a w ha ⟨p, G', h1, h2, h3, h4⟩ => ?_)
  · have h1 := ha.evs _ _ hps
    have h2 : (parts.map fun p => (p.1, a.eval p.2)) = vs := by
      apply Array.ext'
      simp only [Array.toList_map]
      have hl : parts.toList.length = vs.toList.length := by have := congrArg List.length hix; simpa using this
      generalize parts.toList = ps at *
      generalize vs.toList = us at *
      clear h hps
      induction ps generalizing us with
      | nil => cases us <;> simp_all
      | cons p ps ih =>
        cases us with
        | nil => simp at hl
        | cons q us =>
          simp only [List.map_cons, List.cons.injEq] at hix h1 ⊢
          exact ⟨Prod.ext hix.1 h1.1, ih us hix.2 h1.2 (by simpa using hl)⟩
    have h3 : (parts.map fun (i, x) => (i, a.eval x)) = vs := h2
    have : (execOp a.eval ⟨dst, .buildSlice t len parts, ty, pos, af, g⟩).run P w = .ok (.value (.slice (some ⟨w.heap.size, 0, none⟩) len len)) (w.alloc (.cells cs.toArray e)) := by
      simp only [execOp, h3]
      simp [h w]
    rw [this]
    have hcs := hrep.len
    obtain ⟨h4, h5⟩ := (hs.push key (.cells cs.toArray e)).know (i := key) (n := len * r.size) (by rw [Lo.get_cons, if_pos rfl]) h0 (Nat.zero_le _)
    refine ⟨_, _, rfl, h5, ⟨_, _, cs, by rw [hlen], by rw [hlen]; simp only [small] at hsm; omega, fun a ha => by cases ha; rfl, fun _ => rfl, hrep.mono h5, fun j u hu => ?_⟩, h4.weaken (fun i x hx => ?_)⟩
    · have := Mem.row_new (G := G) (b := w.heap.size) (rest := #[]) (n := len * r.size) (by rw [hcs, hlen]) hu
      rw [Array.append_empty] at this
      exact this
    · have hne : key ≠ i := fun e => by subst e; rw [hkey] at hx; cases hx
      rw [Lo.get_cons, if_neg hne, Lo.get_cons, if_neg hne]
      exact hx
  · subst h1
    exact k p G' h2 h3 a w ha h4
theorem Tok.full {size : Nat} {e : TypeId} {p : Option Addr} {n : Nat} : Tok size e (.slice p n n) n none := ⟨p, rfl⟩

theorem SlR.take {p : Option Addr} {n cap : Nat} {xs : List α} {lo hi : Nat} (h : SlR r G (.slice p n cap) xs) (h1 : lo ≤ hi) (h2 : hi ≤ xs.length) {q : Option Addr} (hq : q = p.map (fun a => ⟨a.block, a.off + lo * r.size, none⟩) ∨ (lo = hi ∧ q = p)) {c : Nat} (hc : hi - lo ≤ c ∧ c ≤ 9223372036854775807) : SlR r G (.slice q (hi - lo) c) ((xs.take hi).drop lo) := by
  obtain ⟨p', cap', cs, e1, h3, h4, h5, h6, h7⟩ := h
  cases e1
  have hl : ((xs.take hi).drop lo).length = hi - lo := by simp; omega
  by_cases he : lo = hi
  · subst he
    have : (xs.take lo).drop lo = [] := by apply List.eq_nil_of_length_eq_zero; omega
    rw [this, Nat.sub_self]
    exact ⟨q, c, [], rfl, by simp; omega, fun a ha => by
      rcases hq with hq | ⟨_, hq⟩
      · cases p with
        | none => rw [hq] at ha; cases ha
        | some b => rw [hq] at ha; cases ha; rfl
      · rw [hq] at ha; exact h4 a ha, fun h => by simp at h, rfl, fun j u h => by simp at h⟩
  · have hq := hq.resolve_right (fun h => he h.1)
    have hsp : xs = xs.take lo ++ ((xs.take hi).drop lo ++ xs.drop hi) := by
      have : xs.take hi = (xs.take hi).take lo ++ (xs.take hi).drop lo := (List.take_append_drop lo (xs.take hi)).symm
      rw [List.take_take, Nat.min_eq_left h1] at this
      rw [← List.append_assoc, ← this, List.take_append_drop]
    rw [hsp] at h6
    obtain ⟨c1, d1, e2, k1, k2⟩ := h6.split
    obtain ⟨c2, d2, e3, k3, k4⟩ := k2.split
    have hc1 := k1.len
    have hlo : (xs.take lo).length = lo := by simp; omega
    refine ⟨q, c, c2, by rw [hl], by rw [hl]; exact hc, fun a ha => ?_, fun h => ?_, k3, fun j u hu => ?_⟩
    · cases p with
      | none => rw [hq] at ha; cases ha
      | some b => rw [hq] at ha; cases ha; rfl
    · have := h5 (by omega)
      rw [hq]; simpa using this
    · have hlt := (List.getElem?_eq_some_iff.1 hu).1
      have := h7 (lo * r.size + j) u (by
        subst e2 e3
        rw [List.getElem?_append_right (by rw [hc1, hlo]; omega), hc1, hlo, Nat.add_sub_cancel_left, List.getElem?_append_left hlt]
        exact hu)
      have hps := h5 (by omega)
      cases p with
      | none => cases hps
      | some b =>
        subst hq
        simp only [pb, po, Option.map_some] at this ⊢
        rw [Nat.add_assoc]
        exact this
end
end Go.EL
