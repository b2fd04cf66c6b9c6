/- Keys of maps; slices.Collect(maps.Keys(m)). The conditions stand in each statement. -/
import Derived.Test.YtbdknlblnfnkkaaEls
import Derived.DeepKeys4
namespace Go.EL
open Go Go.RowKit Go.Proofs Go.MapKept

theorem vecG_inj {α : Type} {mk : α → Value} (hm : ∀ x y, mk x = mk y → x = y) {n : Nat} {f g : Fin n → α} (h : vecG mk n f = vecG mk n g) : f = g := by
  funext i
  have h1 := vecG_get mk n f i.isLt
  have h2 := vecG_get mk n g i.isLt
  rw [h, h2] at h1
  exact (hm _ _ (Option.some.inj h1)).symm
theorem mapM_some {α β : Type} {f : α → Option β} : ∀ {l : List α}, (∀ x ∈ l, ∃ y, f x = some y) → ∃ ys, l.mapM f = some ys
  | [], _ => ⟨[], rfl⟩
  | x :: l, h => by
    obtain ⟨y, hy⟩ := h x (by simp)
    obtain ⟨ys, hys⟩ := mapM_some (l := l) (fun z hz => h z (by simp [hz]))
    exact ⟨y :: ys, by simp [List.mapM_cons, hy, hys]⟩
/-- Integers as keys. -/
def Ky.int {P : Program} {kt : TypeId} {ik : IntKind} (hu : P.underlying kt = some (.int ik)) : Ky P kt Int where
  enc x := .int ik x
  ok x := (Lit.int ik x).wf = true
  inj h := by cases h; rfl
  lit h := ⟨_, Go.Maps.keyOf_int_mk hu h⟩
  keyed := Go.Maps.int_keyed hu
/-- Arrays of integers as keys. -/
def Ky.arr {P : Program} {kt e : TypeId} {ik : IntKind} {n : Nat} (hu : P.underlying kt = some (.array n e)) (he : P.underlying e = some (.int ik)) (hkt : P.keyType kt = true) (hc : P.cellsOf kt = n) (hce : P.cellsOf e = 1) (hl : laidOutB P = true) (hrow : kt < P.types.size) (hk2 : P.keyTypeAt 2 kt = true) : Ky P kt (Fin n → Int) where
  enc m := .agg (vecG (Value.int ik) n m).toArray
  ok m := ∀ i, (Lit.int ik (m i)).wf = true
  inj h := vecG_inj (mk := Value.int ik) (fun x y e => by cases e; rfl) (by simpa using h)
  lit {m} h := by
    have hlen : (vecG (Value.int ik) n m).length = n := vecG_length _ _ _
    have hform : (Value.agg (vecG (Value.int ik) n m).toArray).formed P kt = true := by simp [Value.formed, hu, hc, hlen]
    obtain ⟨d, hd⟩ : ∃ d, P.types.size = d + 1 := ⟨P.types.size - 1, by have := Nat.lt_of_le_of_lt (Nat.zero_le _) hrow; omega⟩
    have hm : ∃ ys, (List.range n).mapM (fun i => P.keyLits P.types.size e (((vecG (Value.int ik) n m).drop (i * P.cellsOf e)).take (P.cellsOf e))) = some ys := by
      refine mapM_some fun i hi => ?_
      have hi : i < n := by simpa using hi
      have hg := vecG_get (Value.int ik) n m hi
      have e1 : ((vecG (Value.int ik) n m).drop (i * P.cellsOf e)).take (P.cellsOf e) = [.int ik (m ⟨i, hi⟩)] := by
        rw [hce, Nat.mul_one, List.take_one, List.head?_drop, hg]; rfl
      rw [e1, hd]
      exact ⟨[.int ik (m ⟨i, hi⟩)], by simp [Program.keyLits, he, h ⟨i, hi⟩]⟩
    obtain ⟨ys, hys⟩ := hm
    refine ⟨.string (keyBytes ys.flatten), ?_⟩
    have hk1 : P.keyLits (P.types.size + 1) kt (vecG (Value.int ik) n m) = some ys.flatten := by
      simp only [Program.keyLits, hu, hc, hlen, if_true, hys, Option.map_some]
    simp [keyOf, hu, hkt, hform, Value.cells, hk1]
  keyed := Go.Maps.Keyed.of_law (deep_law_laid hl (m := 2) (by omega) hrow hk2 (by rw [hu]))

/-- What a call has not been lent comes back as it was. -/
theorem Ext.frame {w w' : World} {G G' : Mem} {L0 L' : Lo} (h : Ext w G [] w' G' L') (hp : Hp G L0 w) (hd : ∀ i x, L'.get i = some x → L0.get i = none) : Ext w G L0 w' G' (L' ++ L0) := by
  have get : ∀ i x, Lo.get (L' ++ L0) i = some x → L'.get i = some x ∨ L0.get i = some x := fun i x hx => Lo.get_append L' L0 i x hx
  have nb : ∀ i x, L'.get i = some x → w.heap.size ≤ x.b := fun i x hx => by
    rcases (h.loc i x hx).2.1 with ⟨y, hy, _⟩ | h'
    · simp [Lo.get] at hy
    · exact h'
  have lt : ∀ i x, L0.get i = some x → x.b < w.heap.size := fun i x hx => (Array.getElem?_eq_some_iff.1 (hp.loc i x hx).1).1
  refine ⟨h.os, h.tape, h.output, h.drawn, h.size, fun k hk _ => h.block k hk (fun _ _ e => by simp [Lo.get] at e), h.le, h.imm, fun b o v hv => ?_, fun i x hx => ?_, fun i j x y hne hx hy => ?_⟩
  · rcases h.fresh b o v hv with h' | h' | h'
    · exact .inl h'
    · exact .inr (.inl h')
    · exact (Lo.own_nil h').elim
  · rcases get i x hx with hx | hx
    · exact ⟨(h.loc i x hx).1, .inr (nb i x hx), (h.loc i x hx).2.2⟩
    · refine ⟨by rw [h.block x.b (lt i x hx) (fun _ _ e => by simp [Lo.get] at e)]; exact (hp.loc i x hx).1, .inl ⟨x, hx, rfl⟩, fun k hk => ?_⟩
      cases hg : G' x.b k with
      | none => rfl
      | some v =>
        rcases h.fresh x.b k v hg with h' | h' | h'
        · rw [(hp.loc i x hx).2 k hk] at h'; cases h'
        · have := lt i x hx; omega
        · exact (Lo.own_nil h').elim
  · rcases get i x hx with hx | hx <;> rcases get j y hy with hy | hy
    · exact h.dist i j x y hne hx hy
    · have := nb i x hx; have := lt j y hy; omega
    · have := lt i x hx; have := nb j y hy; omega
    · exact hp.dist i j x y hne hx hy

theorem perm_of_map {K V : Type} {enc : K → Value} (hinj : ∀ {x y}, enc x = enc y → x = y) {xs ys : List K} (h : (xs.map enc).Perm (ys.map enc)) : xs.Perm ys := by
  classical
  let inv : Value → Option K := fun v => if h : ∃ k, enc k = v then some h.choose else none
  have hi : ∀ l : List K, (l.map enc).filterMap inv = l := by
    intro l
    induction l with
    | nil => rfl
    | cons x l ih =>
      have : inv (enc x) = some x := by
        have hx : ∃ k, enc k = enc x := ⟨x, rfl⟩
        simp only [inv, dif_pos hx]
        rw [hinj hx.choose_spec]
      simp only [List.map_cons, List.filterMap_cons, this, ih]
  have := h.filterMap inv
  rwa [hi, hi] at this
theorem MapL.keys {K V : Type} {enc : K → Value} {Rv : K → Value → V → Prop} : ∀ {es : List MapEntry} {D : List (K × V)}, MapL enc Rv es D → es.map (·.key) = (D.map (·.1)).map enc
  | [], [], _ => rfl
  | _ :: _, _ :: _, h => by simp only [List.map_cons, List.cons.injEq]; exact ⟨h.1, MapL.keys h.2.2⟩
  | [], _ :: _, h => by cases h
  | _ :: _, [], h => by cases h

theorem Lo.sub_app : ∀ (A B : Lo), Lo.sub A (A ++ B)
  | [], _ => Lo.sub_nil _
  | p :: A, B => fun i x h => by
    obtain ⟨j, y⟩ := p
    rw [List.cons_append, Lo.get_cons]
    rw [Lo.get_cons] at h
    split at h
    · rename_i e; rw [if_pos e]; exact h
    · rename_i e; rw [if_neg e]; exact Lo.sub_app A B i x h

/-- A map of the call's own, in a box that never changes: what its keys' iterator gives. -/
def KeysOf {K V : Type} (D : List (K × V)) (xs : List K) : Prop := xs.Perm (D.map (·.1))
section
variable {P : Program} {K V : Type} {kt : TypeId}
/-- A contract of slices.AppendSeq(nil, maps.Keys(m)). -/
def CollectsL (P : Program) (f : FuncId) (lead : Array Value) (g : FuncId) (ky : Ky P kt K) (r : Rp K) (e : TypeId) : Prop :=
  ∀ {V : Type} (Rv : K → Value → V → Prop) (v : Value) (D : List (K × V)) (tk : Option Ow) (bm kk : Nat), kk ≠ 7000 ∧ kk ≠ 5000 → MapR ky Rv v D tk →
    CtrL P f (lead.push (.func (.func g) #[] #[.pointer (some ⟨bm, 0, none⟩)])) [(kk, tk)] (fun G => G bm 0 = some v) (fun G L u => ∃ xs p c tk2, L = [(7000, tk2), (kk, tk)] ∧ u = .slice p xs.length c ∧ RowR r e G u xs tk2 ∧ xs.Perm (D.map (·.1)))
theorem collects_of {f g : FuncId} {ky : Ky P kt K} {r : Rp K} {e : TypeId}
    (happ : ∀ {w : World} {G : Mem} {lb : Array Value} {Sx : List K → Prop} {N : Nat}, N ≤ small → Imm G w → Gives P g lb ky.enc ky.ok Sx N w → Calls P f #[.slice none 0 0, .func (.func g) #[] lb] w (RetL ⟨w, []⟩ G (fun G' L' v => ∃ xs p c tk, L' = [(7000, tk)] ∧ v = .slice p xs.length c ∧ RowR r e G' v xs tk ∧ Sx xs)))
    (hkeys : ∀ {w : World} {Bm b : Nat} {es : Array MapEntry} {clock : Nat}, w.cell? ⟨Bm, 0, none⟩ = some (.map (some b)) → w.heap[b]? = some (.map es clock) → Stamped es clock → (∀ en ∈ es.toList, ∃ x, ky.ok x ∧ en.key = ky.enc x) →
      Gives P g #[.pointer (some ⟨Bm, 0, none⟩)] ky.enc ky.ok (fun xs => ∃ cons : List MapEntry, cons.Perm es.toList ∧ cons.map (·.key) = xs.map ky.enc) es.size w) : CollectsL P f #[.slice none 0 0] g ky r e := by
  intro V Rv v D tk bm kk hkk hmap w G hi hpre
  obtain ⟨b, es, clock, rfl, rfl, h3, h4, h5, h6⟩ := hmap
  have hget : Lo.get [(kk, some (⟨b, .map es clock, 0⟩ : Ow))] kk = some ⟨b, .map es clock, 0⟩ := by rw [Lo.get_cons, if_pos rfl]
  have hb := (hi.loc kk _ hget).1
  have hsz : es.size ≤ small := by have := h5.length; rw [Array.length_toList] at this; omega
  refine (happ hsz hi.imm (hkeys (hi.imm _ _ _ hpre) hb h3 (fun en hen => ?_))).mono ?_
  · obtain ⟨p, hp, hk, _⟩ := h5.key en hen
    exact ⟨p.1, h4 p hp, hk⟩
  · rintro en w' ⟨u, G', L', e1, hx, xs, p, c, tk2, rfl, rfl, hrow, cons, hc1, hc2⟩
    refine ⟨_, G', [(7000, tk2), (kk, _)], e1, hx.frame (L0 := [(kk, some ⟨b, .map es clock, 0⟩)]) hi (fun i x hx' => ?_), xs, p, c, tk2, rfl, rfl, hrow, ?_⟩
    · rw [Lo.get_cons] at hx'
      split at hx'
      · rename_i e2; subst e2; rw [Lo.get_cons, if_neg hkk.1]; rfl
      · simp [Lo.get] at hx'
    · refine perm_of_map (V := V) (fun h => ky.inj h) ?_
      rw [← hc2, ← h5.keys]
      exact hc1.map _
/-- slices.Collect over it. -/
theorem collect {f0 f g : FuncId} {fn : Func} {ky : Ky P kt K} {r : Rp K} {e : TypeId} {i0 i1 : Nat} {y2 y3 y4 y5 : TypeId} {p2 p3 p4 p5 : String} {a2 a3 a4 a5 : Array Edge} {ts : Array TypeId} (h : CollectsL P f0 #[.slice none 0 0] g ky r e) (hE : Enters P f0)
    (hf : P.funcs[f]? = some fn) (hb : fn.body = some (.seq (.region i0 #[⟨some 2, .assign (.const (.slice none 0 0)), y2, p2, a2, none⟩] false)
      (.seq (.region i1 #[⟨some 3, .move (.tmp 0), y3, p3, a3, none⟩, ⟨some 4, .call ⟨.value (.func f0), #[.const (.slice none 0 0), .tmp 3], ts⟩, y4, p4, a4, none⟩, ⟨some 2, .assign (.tmp 4), y5, p5, a5, none⟩] false) .ret)))
    (hN : fn.ntmps = 5) (hr : fn.results = #[.tmp 2]) : CollectsL P f #[] g ky r e := by
  intro V Rv v D tk bm kk hkk hmap
  refine CtrL.enter (args := [_]) (N := 5) hf hb hN rfl (fun w0 G0 hL0 hpre => ?_)
  have hz : w0.L.zero := by rw [hL0]; intro p hp x hx; simp only [List.mem_singleton] at hp; subst hp; exact hmap.zero hx
  refine WC.seq (WC.region (WL.y0' guard_none (Y0.assign rfl) rfl (WL.nil (WE.then (WC.seq (WC.region (WL.y0' guard_none (Y0.move rfl) rfl ?_)))))))
  refine WL.callT guard_none rfl (YC.of hE rfl) (h Rv v D tk bm kk hkk hmap) rfl hpre (Lo.sub_refl _) hz (fun u G' L' hle hpost => ?_)
  obtain ⟨xs, p, c, tk2, rfl, rfl, hrow, hperm⟩ := hpost
  refine WL.y0' guard_none (Y0.assign rfl) rfl (WL.nil (WE.then (WC.ret ?_)))
  refine WE.conseq (S' := St w0 G0 G' [(7000, tk2), (kk, tk)]) (fun w hs => hs.weaken (Lo.sub_app _ _)) ?_
  exact WE.ret1 hr rfl ⟨xs, p, c, tk2, rfl, rfl, hrow, hperm⟩
/-- maps.Keys: the map is boxed, and the box never changes. -/
theorem keysBox {f g : FuncId} {fn : Func} {tM : TypeId} {i0 i1 : Nat} {y1 y2 y3 y4 : TypeId} {p1 p2 p3 p4 : String} {a1 a2 a3 a4 : Array Edge}
    (hf : P.funcs[f]? = some fn) (hb : fn.body = some (.seq (.region i0 #[⟨some 1, .box tM (.tmp 0), y1, p1, a1, none⟩, ⟨some 2, .assign (.const .nilFunc), y2, p2, a2, none⟩] false)
      (.seq (.region i1 #[⟨some 3, .makeFunc (.func g) #[] #[.tmp 1], y3, p3, a3, none⟩, ⟨some 2, .assign (.tmp 3), y4, p4, a4, none⟩] false) .ret))) (hN : fn.ntmps = 4) (hr : fn.results = #[.tmp 2]) (m : Option Nat) :
    Ctr P f #[.map m] (fun _ => True) (fun G u => ∃ bm, u = .func (.func g) #[] #[.pointer (some ⟨bm, 0, none⟩)] ∧ G bm 0 = some (.map m)) := by
  refine Ctr.enter (args := [_]) (N := 4) hf hb hN rfl (fun w0 G0 hL0 _ => ?_)
  refine WC.seq (WC.region (WL.box 1 guard_none rfl rfl (fun bm => WL.y0' guard_none (Y0.assign rfl) rfl (WL.nil (WE.then (WC.seq (WC.region (WL.y0' guard_none (Y0.makeFunc rfl rfl) rfl (WL.y0' guard_none (Y0.assign rfl) rfl (WL.nil (WE.then (WC.ret ?_)))))))))))) 
  intro a w ha hs
  obtain ⟨h1, h2⟩ := hs.know (i := 1) (n := 1) rfl (by rw [hL0]; rfl) (Nat.zero_le _)
  refine (?_ : WE 4 _ .ret _ (St w0 G0 (Mem.row G0 bm #[Value.map m] 0 1) _)) a w ha h1
  exact WE.ret1 hr rfl ⟨bm, rfl, by rw [Mem.row_at (Nat.zero_le _) (by decide)]; rfl⟩
end
end Go.EL
