/- A law's row out of its contract: arguments opened, the post-condition. The conditions stand in each statement. -/
import Derived.Test.YtbdknlblnfnkkaaED
import Derived.ChangeSame
import Derived.JoinedOf
import Derived.JoinedAt
import Derived.RowKit3
import Derived.OpenShut
import Derived.Carry
import Derived.ProofKit
import Derived.WalkKit
import Derived.Deep.Slices
namespace Go.EL
open Go Go.RowKit Go.Proofs Go.ChangeShapes Go.WideShapes Go.ChangeAt

theorem trodAll_below {H : Type} {enc : TypeId × Value → H} {P : Program} (hl : laidOutB P = true) {W W' : World} (hb : Below W.heap.size W W') : ∀ {ts : List TypeId} {vs : List Value} {ds : List (DataW H)} {ps : List MemPlace},
    (ts.all fun t => P.readableRec t && decide (t < P.types.size)) = true → DataW.TrodAll enc P W 0 (fun _ => true) true ts vs ds ps → DataW.TrodAll enc P W' 0 (fun b => decide (b < W.heap.size)) true ts vs ds ps
  | [], [], [], _, _, h => h
  | t :: ts, v :: vs, d :: ds, ps, hr, h => by
    have hlt := DataW.TrodAll.lt h
    obtain ⟨p, q, h1, h2, rfl⟩ := h
    simp only [List.all_cons, Bool.and_eq_true, decide_eq_true_eq] at hr
    exact ⟨p, q, Below.trod hl hr.1.1 hr.1.2 h1 hb (fun x hx => hlt x (by simp [hx])), trodAll_below hl hb hr.2 h2, rfl⟩
  | [], [], _ :: _, _, _, h => h.elim
  | [], _ :: _, _, _, _, h => h.elim
  | _ :: _, [], _, _, _, h => h.elim
  | _ :: _, _ :: _, [], _, _, h => h.elim

theorem trodAll_len {H : Type} {enc : TypeId × Value → H} {P : Program} {w : World} {b : Nat} {sp : Nat → Bool} {held : Bool} : ∀ {ts : List TypeId} {vs : List Value} {ds : List (DataW H)} {ps : List MemPlace}, DataW.TrodAll enc P w b sp held ts vs ds ps → ds.length = ts.length
  | [], [], [], _, _ => rfl
  | t :: ts, v :: vs, d :: ds, ps, h => by
    obtain ⟨p, q, h1, h2, rfl⟩ := h
    simp [trodAll_len h2]
  | [], [], _ :: _, _, h => h.elim
  | [], _ :: _, _, _, h => h.elim
  | _ :: _, [], _, _, h => h.elim
  | _ :: _, _ :: _, [], _, h => h.elim
theorem Ext.below {w w' : World} {G G' : Mem} {L' : Lo} (h : Ext w G [] w' G' L') : Below w.heap.size w w' := ⟨h.os, h.tape, h.output, h.size, fun k hk => h.block k hk (fun _ _ e => (by simp [Lo.get] at e))⟩
/-- What a law's row asks of the law. -/
def LawCalls {H : Type} (enc : TypeId × Value → H) (P : Program) (f : FuncId) (ts : List TypeId) : Prop :=
  ∀ (W : World) (base : Nat) (args : Array Value) (ds : List (DataW H)) (p : List MemPlace), (∀ (j : Nat) t v, ts[j]? = some t → args[j]? = some v → Value.okWide P W .any base t v) →
    DataW.TrodAll enc P W 0 (fun _ => true) true ts args.toList ds p → Calls P f args W fun e w' => e = .returned (.bool true) ∧ Below W.heap.size W w'

theorem law_lifted {C : Checked} {os : Os} {f : FuncId} {fn : Func} {s : ChangeSpec} {conds : List PathCond} {bt : TypeId} {H : Type} {enc : TypeId × Value → H}
    (own : ownKnob C.prog.godebug = none) (started : os.Started) (noInit : C.prog.inits.idxOf? f = none) (hfn : C.prog.funcs[f]? = some fn)
    (witness : ∃ (w : World) (tape : Tape) (i : Input), w.os = os ∧ (w.forCall tape i).Shaped C.prog ∧ i.vars = [] ∧ Input.okWide C.prog (w.forCall tape i) .any w.heap.size f i ∧
      s.pre6 enc C.prog fn conds false (w.forCall tape i).memory i.args ∧ ({} : Assume).holds C.prog (lone (Frame.enter C.prog f i.args .normal) [] (w.forCall tape i)))
    (hl : laidOutB C.prog = true) (hr : (fn.params.toList.all fun t => C.prog.readableRec t && decide (t < C.prog.types.size)) = true) (hres : fn.resultTypes = #[bt]) (hbt : C.prog.underlying bt = some .bool) (hv : s.vars = [])
    (hs : ∀ ds : List (DataW H), ds.length = fn.params.toList.length → s.fn H ds = { results := [.lit (.bool true)], args := ds })
    (walk : LawCalls enc C.prog f fn.params.toList) :
    ReturnsInHanded {} C os f .any (s.pre6 enc C.prog fn conds false) (s.post enc C.prog fn false true false false) := by
  refine returnsInHanded_of_change own started noInit hfn witness ?_
  intro W base args ds gs before hval hW _ _
  have hW' := hW
  obtain ⟨p, q, hA, hV, rfl, hfz, hnd⟩ := hW
  rw [hv] at hV
  obtain ⟨rfl, rfl⟩ := trodVars_none hV
  refine (walk W base args ds p (fun j t v h1 h2 => hval j t v (by simpa using h1) h2) hA).mono fun e w' ⟨he, hb⟩ => ?_
  subst he
  have hlen := trodAll_len hA
  have hfn' : s.fn H (ds ++ []) = { results := [.lit (.bool true)], args := ds } := by rw [List.append_nil]; exact hs ds hlen
  refine ⟨_, rfl, ds, [], p ++ [], [], p, [], hW', ?_, ?_, ?_, Below.frame hb _, fun h => by cases h⟩
  · rw [hfn', hres]
    exact trodAll_mk1 (shut_bool hbt true)
  · rw [hfn']
    exact trodAll_below hl hb hr hA
  · rw [hfn', hv]; rfl

theorem wf_u16 {x : Int} (h : (Lit.int .u16 x).wf = true) : 0 ≤ x ∧ x ≤ 65535 := by
  simp only [Lit.wf, Bool.and_eq_true, decide_eq_true_eq] at h
  have h1 : IntKind.u16.min = 0 := by decide
  have h2 : IntKind.u16.max = 65535 := by decide
  omega
theorem wf_u8 {x : Int} (h : (Lit.int .u8 x).wf = true) : 0 ≤ x ∧ x ≤ 255 := by
  simp only [Lit.wf, Bool.and_eq_true, decide_eq_true_eq] at h
  have h1 : IntKind.u8.min = 0 := by decide
  have h2 : IntKind.u8.max = 255 := by decide
  omega
theorem wf_i64 {x : Int} (h : (Lit.int .i64 x).wf = true) : -9223372036854775808 ≤ x ∧ x ≤ 9223372036854775807 := by
  simp only [Lit.wf, Bool.and_eq_true, decide_eq_true_eq] at h
  have h1 : IntKind.i64.min = -9223372036854775808 := by decide
  have h2 : IntKind.i64.max = 9223372036854775807 := by decide
  omega
/-- A contract in which nothing is known and nothing is lent. -/
theorem Ctr.law {P : Program} {f : FuncId} {args : Array Value} {pre : Mem → Prop} (h : Ctr P f args pre (fun _ r => r = .bool true)) (W : World) (G : Mem) (hi : Imm G W) (hp : pre G) : Calls P f args W fun e w' => e = .returned (.bool true) ∧ Below W.heap.size W w' :=
  (h W G ⟨hi, (by intro _ _ h; simp [Lo.get] at h), (by intro _ _ _ _ _ h; simp [Lo.get] at h)⟩ hp).mono fun _ _ ⟨_, _, _, h1, h2, h3⟩ => ⟨by rw [h1, h3], h2.below⟩
theorem imm_none (W : World) : Imm (fun _ _ => none) W := by intro _ _ _ h; cases h
end Go.EL
/- Arguments opened: slices of arrays of integers, alone and in a struct. The conditions stand in each statement. -/
namespace Go.EL
open Go Go.RowKit Go.Proofs Go.ChangeShapes Go.WideShapes Go.ChangeAt

/-- All that lies in memory. -/
def allMem (W : World) : Mem := fun b o => W.cell? ⟨b, o, none⟩
theorem imm_all (W : World) : Imm (allMem W) W := by intro _ _ _ h; exact h
theorem addr_add (a : Addr) (n : Nat) (h : a.spot = none) : a.add n = ⟨a.block, a.off + n, none⟩ := by
  unfold Addr.add
  split
  · rename_i h0; subst h0; cases a; simp_all
  · rfl
/-- Cells of a type read as data. -/
def Opens {α : Type} (P : Program) (W : World) (t : TypeId) (r : Rp α) (ok : α → Prop) : Prop :=
  ∀ {H : Type} {enc : TypeId × Value → H} {b : Nat} {sp : Nat → Bool} {held : Bool} {fuel : Nat} {cs : List Value} {x : DataW H × List MemPlace}, DataW.trod enc P W b sp held fuel t cs = some x → ∃ y, r.rep (allMem W) cs y ∧ ok y
theorem Opens.int {P : Program} {W : World} {t : TypeId} {k : IntKind} (ht : P.underlying t = some (.int k)) : Opens P W t (Rp.int k) (fun y => (Lit.int k y).wf = true) := by
  intro H enc b sp held fuel cs x h
  obtain ⟨n, h2, _, h3⟩ := DataW.trod_int ht h
  exact ⟨n, h2, h3⟩
theorem Opens.vec {P : Program} {W : World} {t e : TypeId} {k : IntKind} {n : Nat} (ht : P.underlying t = some (.array n e)) (he : P.underlying e = some (.int k)) (hc : P.cellsOf t = n) (hce : P.cellsOf e = 1) : Opens P W t (Rp.vec k n) (fun f => ∀ i, (Lit.int k (f i)).wf = true) := by
  intro H enc b sp held fuel cs x h
  obtain ⟨xs, m, _, _, hl, hxl, hx⟩ := DataW.trod_array ht h
  have hcell : ∀ i : Fin n, ∃ z, cs[i.val]? = some (.int k z) ∧ (Lit.int k z).wf = true := by
    intro i
    have h1 := hx i.val i.isLt
    rw [List.getElem?_eq_getElem (by omega), hce] at h1
    obtain ⟨z, h2, _, h3⟩ := DataW.trod_int he h1
    refine ⟨z, ?_, h3⟩
    have h5 : ((cs.drop (i.val * 1)).take 1)[0]? = some (.int k z) := by rw [h2]; rfl
    rw [List.getElem?_take, if_pos (by decide), List.getElem?_drop] at h5
    simpa using h5
  have hch := fun i => (hcell i).choose_spec
  refine ⟨fun i => (hcell i).choose, ?_, fun i => (hch i).2⟩
  show cs = vecG (Value.int k) n _
  apply List.ext_getElem?
  intro j
  by_cases hj : j < n
  · rw [vecG_get _ _ _ hj]; exact (hch ⟨j, hj⟩).1
  · rw [List.getElem?_eq_none (by omega), List.getElem?_eq_none (by rw [vecG_length]; omega)]
theorem open_slR {α : Type} {r : Rp α} {ok : α → Prop} {P : Program} {W : World} {t e : TypeId} {H : Type} {enc : TypeId × Value → H} {b : Nat} {sp : Nat → Bool} {held : Bool} {fuel : Nat} {cs : List Value} {x : DataW H × List MemPlace}
    (ht : P.underlying t = some (.slice e)) (hc : P.cellsOf e = r.size) (he : Opens P W e r ok) (hsp : ∀ a len cap, cs = [.slice (some a) len cap] → a.spot = none) (h : DataW.trod enc P W b sp held fuel t cs = some x) :
    ∃ p cap l, cs = [.slice p (List.length l) cap] ∧ SlR r (allMem W) (.slice p l.length cap) l ∧ ∀ y ∈ l, ok y := by
  rcases Go.Deep.open_slice ht h with ⟨h0, _⟩ | ⟨a, len, cap, m, n, D, Pl, h0, _, hl, hcap, hm, _, hx⟩
  · exact ⟨none, 0, [], h0, SlR.nil _ _, by simp⟩
  · have hs := hsp a len cap h0
    have hml : len ≤ m := by rw [hm]; split <;> omega
    have hel : ∀ k, k ≤ len → ∃ (C : List Value) (l : List α), l.length = k ∧ RepL r (allMem W) C l ∧ (∀ y ∈ l, ok y) ∧ ∀ j u, C[j]? = some u → W.cell? ⟨a.block, a.off + j, none⟩ = some u := by
      intro k
      induction k with
      | zero => exact fun _ => ⟨[], [], rfl, rfl, by simp, fun j u h => by simp at h⟩
      | succ k ih =>
        intro hk
        obtain ⟨C, l, h1, h2, h3, h4⟩ := ih (by omega)
        obtain ⟨cs', g1, g2⟩ := hx k (by omega)
        rw [hc] at g1
        obtain ⟨_, hlen, hcell⟩ := World.cells?_some g1
        obtain ⟨y, g3, g4⟩ := he g2
        refine ⟨C ++ cs', l ++ [y], by simp [h1], h2.append (RepL.single g3), fun z hz => ?_, fun j u hu => ?_⟩
        · rcases List.mem_append.1 hz with hz | hz
          · exact h3 z hz
          · simp at hz; subst hz; exact g4
        · by_cases hj : j < C.length
          · rw [List.getElem?_append_left hj] at hu; exact h4 j u hu
          · rw [List.getElem?_append_right (by omega)] at hu
            have hlt := (List.getElem?_eq_some_iff.1 hu).1
            have hC := h2.len
            rw [h1] at hC
            have h5 := hcell (j - C.length) (by omega)
            rw [addr_add a _ hs, addr_add _ _ rfl, hu] at h5
            have e : a.off + k * r.size + (j - C.length) = a.off + j := by omega
            simp only [e] at h5
            exact h5
    obtain ⟨C, l, h1, h2, h3, h4⟩ := hel len (Nat.le_refl _)
    subst h1
    refine ⟨some a, cap, l, h0, ⟨some a, cap, C, rfl, ⟨hl, by simpa [maxLen] using hcap⟩, fun a' e => ?_, fun _ => rfl, h2, fun j u hu => h4 j u hu⟩, h3⟩
    cases e; exact hs
theorem open_slices {α : Type} {r : Rp α} {ok : α → Prop} {P : Program} {W : World} {t e : TypeId} {base : Nat} {v : Value} {H : Type} {enc : TypeId × Value → H} {b : Nat} {sp : Nat → Bool} {held : Bool} {d : DataW H} {ps : List MemPlace}
    (ht : P.underlying t = some (.slice e)) (hc : P.cellsOf e = r.size) (he : Opens P W e r ok) (hok : Value.okWide P W .any base t v) (h : DataW.Trod enc P W b sp held t v d ps) :
    ∃ p cap l, v = .slice p (List.length l) cap ∧ SlR r (allMem W) (.slice p l.length cap) l ∧ ∀ y ∈ l, ok y := by
  obtain ⟨p, len, cap, rfl⟩ := okWide_slice ht hok
  obtain ⟨fuel, hf⟩ := h
  have hcs : (Value.slice p len cap).cells.toList = [.slice p len cap] := rfl
  rw [hcs] at hf
  obtain ⟨p', cap', l, h1, h2, h3⟩ := open_slR ht hc he (fun a len' cap' e => by
    cases e
    simp only [Value.okWide, ht, Cell.okWide, Cell.ok, World.has] at hok
    exact hok.2.2.2.1) hf
  cases h1
  exact ⟨p, cap, l, rfl, h2, h3⟩
/-- A struct of a slice and a number. -/
theorem open_slInt {α : Type} {r : Rp α} {ok : α → Prop} {k : IntKind} {P : Program} {W : World} {t e : TypeId} {f0 f1 : Field} {base : Nat} {v : Value} {H : Type} {enc : TypeId × Value → H} {b : Nat} {sp : Nat → Bool} {held : Bool} {d : DataW H} {ps : List MemPlace}
    (hst : P.underlying t = some (.struct #[f0, f1])) (o0 : f0.offset = 0) (o1 : f1.offset = 1) (c0 : P.cellsOf f0.type = 1) (c1 : P.cellsOf f1.type = 1) (ct : P.cellsOf t = 2) (ty : P.cellTypes P.depth t = some [f0.type, f1.type])
    (ht : P.underlying f0.type = some (.slice e)) (hk : P.underlying f1.type = some (.int k)) (hc : P.cellsOf e = r.size) (he : Opens P W e r ok) (hok : Value.okWide P W .any base t v) (h : DataW.Trod enc P W b sp held t v d ps) :
    ∃ p cap l n, v = .agg ([.slice p (List.length l) cap, .int k n]).toArray ∧ SlR r (allMem W) (.slice p l.length cap) l ∧ (∀ y ∈ l, ok y) ∧ (Lit.int k n).wf = true := by
  obtain ⟨cs, rfl, hsz, hrow⟩ : ∃ cs, v = .agg cs ∧ cs.size = P.cellsOf t ∧ Row.okWide P W .any base t cs := by simpa [Value.okWide, hst] using hok
  obtain ⟨fuel, hf⟩ := h
  obtain ⟨y0, y1, n, _, hl, h0, h1⟩ := trod_struct2 hst hf
  rw [o0, c0] at h0
  rw [o1, c1] at h1
  rw [ct] at hsz
  have hcs : (Value.agg cs).cells.toList = cs.toList := rfl
  rw [hcs] at h0 h1
  obtain ⟨u0, u1, e2⟩ : ∃ u0 u1, cs.toList = [u0, u1] := by
    have : cs.toList.length = 2 := by simpa using hsz
    match hcs : cs.toList, this with
    | [a, b], _ => exact ⟨a, b, rfl⟩
  rw [e2] at h0 h1
  obtain ⟨ts, hts, _, hcell⟩ := hrow
  rw [ty] at hts
  cases hts
  obtain ⟨u, hu, hok0⟩ := hcell 0 u0 (by rw [← Array.getElem?_toList, e2]; rfl)
  simp at hu; subst hu
  obtain ⟨p, cap, l, g1, g2, g3⟩ := open_slR ht hc he (fun a len' cap' e => by
    simp at e; subst e
    simp only [ht, Cell.okWide, Cell.ok, World.has] at hok0
    exact hok0.2.2.2.1) h0
  obtain ⟨z, g4, _, g5⟩ := DataW.trod_int hk h1
  simp at g1 g4
  subst g1 g4
  refine ⟨p, cap, l, z, ?_, g2, g3, g5⟩
  congr 1
  rw [← e2]
end Go.EL
