/- Iterators over a map's keys: maps.Keys, slices.AppendSeq, by the form of their code. The conditions stand in each statement. -/
import Derived.Test.YtbdknlblnfnkkaaElq
namespace Go.EL
open Go Go.RowKit Go.Proofs Go.MapKept

section
variable {P : Program} {N : Nat} {Q : Post} {fr : Fr} {S : Asrt} {ops : Array Oper} {l : List Oper} {dst : Option Nat} {ty : TypeId} {pos : String} {af : Array Edge} {g : Option (Nat × Bool)}
/-- The operations of a region, one of which may be a call of yield. -/
def WLI (P : Program) (N : Nat) (ops : Array Oper) (Q : Post) (l : List Oper) (fr : Fr) (S : Asrt) : Prop := ∀ a w, Rel N fr a → S w → wpListIn Fence.wide 0 P ops Q l a w
theorem WLI.nil (h : WE N Q .normal fr S) : WLI P N ops Q [] fr S := h
theorem WLI.y0 {op : Op} {v : Value} (hg : guardOK ops fr ⟨dst, op, ty, pos, af, g⟩ true) (h : Y0 P N ⟨dst, op, ty, pos, af, g⟩ fr S v) (hn : ∀ c, op ≠ .defer c) (hd : dstOK N dst) (k : WLI P N ops Q l (putFr dst v fr) S) : WLI P N ops Q (⟨dst, op, ty, pos, af, g⟩ :: l) fr S := fun a w ha hs => by
  unfold wpListIn
  rw [if_pos (ha.wanted hg)]
  refine ⟨fun _ _ => trivial, ?_⟩
  rw [Oper.semAt_plain _ _ _ hn, h a w ha hs]
  exact k _ w (ha.putFr v hd) hs
theorem WLI.yield {x y : Operand} {ts : Array TypeId} {loop : Nat} {u : Value} {Φ : Value → Asrt} (hg : guardOK ops fr ⟨dst, .call ⟨.value x, #[y], ts⟩, ty, pos, af, g⟩ true) (hd : dstOK N dst) (hx : fr.ev x = some (.func (.yield loop) #[] #[])) (hy : fr.ev y = some u)
    (hY : ∀ w, S w → YieldAt Fence.wide 0 P loop #[u] w fun e w' => ∃ v, e = .returned v ∧ Φ v w') (k : ∀ v, WLI P N ops Q l (putFr dst v fr) (Φ v)) : WLI P N ops Q (⟨dst, .call ⟨.value x, #[y], ts⟩, ty, pos, af, g⟩ :: l) fr S := fun a w ha hs => by
  unfold wpListIn
  rw [if_pos (ha.wanted hg)]
  refine ⟨fun _ _ => trivial, ?_⟩
  rw [Oper.semAt_plain _ _ _ (fun c h => by cases h)]
  obtain ⟨fn, tmps, assign, body, h1, h2⟩ := hY w hs
  have : (execOp a.eval ⟨dst, .call ⟨.value x, #[y], ts⟩, ty, pos, af, g⟩).run P w = .ok (.round loop fn tmps assign body) w := by
    simp [execOp, resolve, ha.ev hx, ha.ev hy, Deferred.ofValue, invoke, h1]
  rw [this]
  refine ⟨fun h => by simp [Fence.wide] at h, h2.mono fun e w' ⟨v, e1, e2⟩ => ?_⟩
  subst e1
  exact k v _ w' (ha.putFr v hd) e2
theorem WC.regionI {id : Nat} {l : List Oper} (h : WLI P N l.toArray Q l fr S) : WC P N (.region id l.toArray false) Q fr S := fun a w ha hs => by
  refine (wpIn_wide (n := 0)).1 (wpIn_region ?_)
  have := wpOpsIn_eq_wpListIn (F := Fence.wide) (n := 0) (P := P) (ops := l.toArray) (Q := Q) l 0 (fun j => by simp)
  rw [List.range_eq_range', List.size_toArray, this]
  exact h a w ha hs
theorem Y0.loadW {t : TypeId} {x : Operand} {b off : Nat} {v : Value} (ht : ScalT P t) (hx : fr.ev x = some (.pointer (some ⟨b, off, none⟩))) (hv : ∀ w, S w → w.cell? ⟨b, off, none⟩ = some v) : Y0 P N ⟨dst, .load t x, ty, pos, af, g⟩ fr S v := fun a w ha hs => by
  simp [execOp, ha.ev hx, Instr.loadAt, Instr.sureAddr, run_loadVar_scal ht (hv w hs)]
theorem WC.loopM {c : Code} {X : Type} (m : X → Nat) (F : X → Fr) (I : X → Asrt) (x₀ : X) (hF : Fr.sub (F x₀) fr) (hI : ∀ w, S w → I x₀ w)
    (round : ∀ x, WC P N c (Exit.then (fun a w => ∃ x', m x' < m x ∧ Rel N (F x') a ∧ I x' w) Q) (F x) (I x)) : WC P N (.loop c) Q fr S := by
  have key : ∀ n x, m x = n → ∀ a w, Rel N (F x) a → I x w → LoopIn P c Q a w := by
    intro n
    induction n using Nat.strongRecOn with
    | _ n ih =>
      intro x hx a w ha hI
      refine LoopIn.fold (Code.wp_mono (fun e a' w' hq => ?_) (round x a w ha hI))
      cases e <;> first | exact hq | skip
      obtain ⟨x', h1, h2, h3⟩ := hq
      exact ih (m x') (by omega) x' rfl a' w' h2 h3
  exact fun a w ha hs => (key _ x₀ rfl a w (ha.weaken hF) (hI w hs)).wp
end
theorem nodup_len {α : Type} : ∀ {l m : List α}, l.Nodup → (∀ x ∈ l, x ∈ m) → l.length ≤ m.length
  | [], m, _, _ => Nat.zero_le _
  | a :: l, m, h, hs => by
    obtain ⟨s, t, rfl⟩ := List.append_of_mem (hs a (by simp))
    have h1 := List.nodup_cons.1 h
    have := nodup_len (l := l) (m := s ++ t) h1.2 (fun x hx => by
      have := hs x (by simp [hx])
      simp only [List.mem_append, List.mem_cons] at this ⊢
      rcases this with h | rfl | h
      · exact .inl h
      · exact absurd hx h1.1
      · exact .inr h)
    simp only [List.length_append, List.length_cons] at this ⊢
    omega
theorem Stp.of_st {w w' : World} {G0 G : Mem} {L : Lo} (h : St ⟨w, []⟩ G0 G L w') (B : Nat) : Stp B w w' :=
  ⟨h.os, h.tape, h.output, h.drawn, h.size, fun k o hk _ => by rw [h.block k (Array.getElem?_eq_some_iff.1 hk).1 (fun _ _ e => by simp [Lo.get] at e)]; exact hk⟩

section
variable {P : Program} {K : Type}
/-- maps.Keys' iterator, at keys of many cells. -/
theorem keysA {f : Nat} {fn : Func} {tM tK kt e : TypeId} {n : Nat} {z : Value} {enc : K → Array Value} {ok : K → Prop} {i0 i1 i2 i3 : Nat} {y4 y5 y6 y7 y8 y9 y3 ys y10 y11 y12 y13 tn : TypeId} {p4 p5 p6 p7 p8 p9 p3 ps p10 p11 p12 p13 : String} {a4 a5 a6 a7 a8 a9 a3 as9 a10 a11 a12 a13 : Array Edge} {ts : Array TypeId}
    (hf : P.funcs[f]? = some fn)
    (hb : fn.body = some (.seq (.region i0 #[⟨some 4, .load tM (.tmp 1), y4, p4, a4, none⟩, ⟨some 5, .range tM (.tmp 4), y5, p5, a5, none⟩] false)
      (.block 0 (.loop (.seq (.region i1 #[⟨some 6, .next (.tmp 5) false, y6, p6, a6, none⟩, ⟨some 7, .extract (.tmp 6) 0, y7, p7, a7, none⟩] false)
        (.seq (.cond (.tmp 7) .skip (.exit 0)) (.block 1 (.seq (.region i2 #[⟨some 8, .entry (.tmp 5), y8, p8, a8, none⟩, ⟨some 9, .extract (.tmp 8) 0, y9, p9, a9, none⟩, ⟨some 3, .alloc tK, y3, p3, a3, none⟩, ⟨none, .store tK (.tmp 3) (.tmp 9), ys, ps, as9, none⟩] false)
          (.seq (.region i3 #[⟨some 10, .move (.tmp 0), y10, p10, a10, none⟩, ⟨some 11, .load tK (.tmp 3), y11, p11, a11, none⟩, ⟨some 12, .call ⟨.value (.tmp 10), #[.tmp 11], ts⟩, y12, p12, a12, none⟩, ⟨some 13, .unOp .not tn (.tmp 12), y13, p13, a13, none⟩] false)
            (.cond (.tmp 13) .ret .skip))))))))))
    (hN : fn.ntmps = 14) (hr : fn.results = #[]) (hM : ScalT P tM) (hu : P.underlying tM = some (.map kt e)) (hz : (P.info? tK).map (·.zero) = some (some z)) (hzs : z.cells.size = n) (hK : AggT P tK n) (hsz : (P.info? tK).map (·.size) = some n)
    (hen : ∀ x, (enc x).size = n) (hone : ∀ x, ∀ u ∈ (enc x).toList, u.oneCell' = true)
    {w : World} {Bm b : Nat} {es : Array MapEntry} {clock : Nat} (hcell : w.cell? ⟨Bm, 0, none⟩ = some (.map (some b))) (hmap : w.heap[b]? = some (.map es clock)) (hS : Stamped es clock) (hk : ∀ en ∈ es.toList, ∃ x, ok x ∧ en.key = .agg (enc x)) :
    Gives P f #[.pointer (some ⟨Bm, 0, none⟩)] (fun x => .agg (enc x)) ok (fun xs => ∃ cons : List MapEntry, cons.Perm es.toList ∧ cons.map (·.key) = xs.map fun x => .agg (enc x)) es.size w := by
  intro l J W hW hA hY h0
  have hcW : W.cell? ⟨Bm, 0, none⟩ = some (.map (some b)) := by
    obtain ⟨ob, h1, h2⟩ := not_walk_of_cell hcell
    have h1 : w.heap[Bm]? = some ob := h1
    have h1' := hW Bm ob h1
    simp only [World.cell?, h1] at hcell
    simp only [World.cell?, h1']
    exact hcell
  have hmW := hW b _ hmap
  suffices hwc : WC P 14 _ (bodyPost P fn fun e W' => (∃ v, e = .returned v) ∧ ∃ xs : List K, (∃ cons : List MapEntry, cons.Perm es.toList ∧ cons.map (·.key) = xs.map fun x => .agg (enc x)) ∧ J xs W') (argFr [.func (.yield l) #[] #[], .pointer (some ⟨Bm, 0, none⟩)] 0) (fun w => w = W) by
    refine calls_of_wp hf hb (hwc _ W ⟨rfl, by rw [hN]; rfl, fun t v hv => ?_⟩ rfl)
    obtain ⟨_, h2⟩ := argFr_get _ 0 t v hv
    simp only [Nat.sub_zero] at h2
    have hlt := (List.getElem?_eq_some_iff.1 h2).1
    rw [Array.getElem?_append_left (by simpa using hlt)]
    simpa using h2
  have hbl : b < W.heap.size := (Array.getElem?_eq_some_iff.1 hmW).1
  let I : List K × List MapEntry × Nat → Asrt := fun x w => J x.1 w ∧ Rng b W.heap.size es clock x.2.1 x.2.2 w ∧ x.2.1.map (·.key) = x.1.map fun x => Value.agg (enc x)
  refine WC.seq (WC.region (WL.y0' guard_none (Y0.loadW hM rfl (fun w hw => by subst hw; exact hcW)) rfl ?_))
  refine WL.yr (Φ := fun v w => v = .pointer (some ⟨W.heap.size, 0, none⟩) ∧ I ([], [], (leftOf es #[]).size) w) guard_none (fun a w ha hs => ?_) rfl (fun v a w ha hs => ?_)
  · subst hs
    have : (execOp a.eval ⟨some 5, .range tM (.tmp 4), y5, p5, a5, none⟩).run P w = .ok (.value (.pointer (some ⟨w.heap.size, 0, none⟩))) (w.alloc (.mapIter (some b) clock #[] clock)) := by
      simp [execOp, ha.ev (x := .tmp 4) (v := .map (some b)) rfl, Instr.range, run_underlying hu, MapKept.run_getObj_map hmW, Result.andThen, run_newObj_alloc]
    rw [this]
    refine ⟨rfl, hA _ _ _ h0 (Stp.alloc _ _ _), ⟨(Below.heap_alloc _ _ b hbl).trans hmW, ⟨#[], clock, World.alloc_heap_new _ _, Nat.le_refl _, rfl, fun x => ?_⟩, List.nodup_nil⟩, rfl⟩
    simp
  · obtain ⟨rfl, hs⟩ := hs
    suffices hq : WL P 14 _ _ [] _ (I ([], [], (leftOf es #[]).size)) from hq a w ha hs
    refine WL.nil (WE.then (WC.block (WC.loopM (X := List K × List MapEntry × Nat) (fun x => x.2.2) (fun _ => [(0, .func (.yield l) #[] #[]), (5, .pointer (some ⟨W.heap.size, 0, none⟩))]) I ([], [], (leftOf es #[]).size) (Fr.sub_cons rfl (Fr.sub_cons rfl (Fr.sub_nil _))) (fun _ h => h) ?_)))
    rintro ⟨ss, cons, left⟩
    refine WC.seq (WC.region ?_)
    refine WL.yr (Φ := fun v w => (v = .tuple #[.bool false] ∧ left = 0 ∧ I (ss, cons, left) w) ∨ ∃ en ∈ es.toList, ∃ left', v = .tuple #[.bool true, en.key, en.val] ∧ ((¬ en ∈ cons) ∧ J ss w ∧ Rng b W.heap.size es clock (cons ++ [en]) left' w ∧ left' < left ∧ cons.map (·.key) = ss.map (fun x => Value.agg (enc x)) ∧ (Instr.entry (.pointer (some ⟨W.heap.size, 0, none⟩))).run P w = .ok (.tuple #[en.key, en.val]) w)) guard_none (fun a w ha hs => ?_) rfl (fun v a w ha hs => ?_)
    · obtain ⟨hJ, hR, hc⟩ := hs
      rcases hR.next (P := P) hS y6 with ⟨h1, h2⟩ | ⟨en, h1, w', left', h2, h3, h4, h5, h6, h7⟩
      · have : (execOp a.eval ⟨some 6, .next (.tmp 5) false, y6, p6, a6, none⟩).run P w = .ok (.value (.tuple #[.bool false])) w := by
          simp [execOp, ha.ev (x := .tmp 5) (v := .pointer (some ⟨W.heap.size, 0, none⟩)) rfl, h2]
        rw [this]
        exact .inl ⟨rfl, h1, hJ, hR, hc⟩
      · have : (execOp a.eval ⟨some 6, .next (.tmp 5) false, y6, p6, a6, none⟩).run P w = .ok (.value (.tuple #[.bool true, en.key, en.val])) w' := by
          simp [execOp, ha.ev (x := .tmp 5) (v := .pointer (some ⟨W.heap.size, 0, none⟩)) rfl, h3]
        rw [this]
        exact .inr ⟨en, h1, left', rfl, h2, hA _ _ _ hJ (h7 _ (Nat.le_refl _)), h4, h5, hc, h6⟩
    · rcases hs with ⟨rfl, rfl, hs⟩ | ⟨en, hen', left', rfl, hs⟩
      · -- nothing is left
        suffices hq : WL P 14 _ _ _ _ (I (ss, cons, 0)) from hq a w ha hs
        refine WL.y0' guard_none (Y0.extract rfl rfl) rfl (WL.nil (WE.then (WC.seq (WC.condF rfl (WC.exit (WE.thenExit (WE.thenExit (WE.exitHere ?_))))))))
        rintro a w ha ⟨hJ, hR, hc⟩
        exact ⟨ha.defers, .tuple #[], by simp [results, hr], ⟨_, rfl⟩, ss, ⟨cons, hR.done hS, hc⟩, hJ⟩
      · suffices hq : WL P 14 _ _ _ _ (fun w => (¬ en ∈ cons) ∧ J ss w ∧ Rng b W.heap.size es clock (cons ++ [en]) left' w ∧ left' < left ∧ cons.map (·.key) = ss.map (fun x => Value.agg (enc x)) ∧ (Instr.entry (.pointer (some ⟨W.heap.size, 0, none⟩))).run P w = .ok (.tuple #[en.key, en.val]) w) from hq a w ha hs
        refine WL.y0' guard_none (Y0.extract rfl rfl) rfl (WL.nil (WE.then (WC.seq (WC.condT rfl (WC.skip (WE.then (WC.block (WC.seq (WC.region ?_)))))))))
        obtain ⟨x, hok, hkx⟩ := hk en hen'
        refine WL.y0' (v := .tuple #[.agg (enc x), en.val]) guard_none (fun a w ha hs => ?_) rfl (WL.y0' guard_none (Y0.extract rfl rfl) rfl ?_)
        · simp [execOp, ha.ev (x := .tmp 5) (v := .pointer (some ⟨W.heap.size, 0, none⟩)) rfl, hs.2.2.2.2.2, hkx]
        · intro a w1 ha hs
          obtain ⟨hnc, hJ, hR, hlt, hc, _⟩ := hs
          have hst : St ⟨w1, []⟩ (fun _ _ => none) (fun _ _ => none) [] w1 := (Hp.empty w1).st
          revert a ha
          suffices h : WL P 14 _ _ _ _ (St ⟨w1, []⟩ (fun _ _ => none) (fun _ _ => none) []) from fun a ha => h a w1 ha hst
          refine WL.alloc 3 guard_none hz rfl (fun b3 => ?_)
          refine WL.storeLA 3 guard_none hsz rfl rfl rfl hzs (hen x) (hone x) (WL.nil (WE.then (WC.seq (WC.regionI ?_))))
          refine WLI.y0 guard_none (Y0.move rfl) (fun c h => by cases h) rfl (WLI.y0 guard_none (Y0.loadLA 3 hK rfl rfl (hen x)) (fun c h => by cases h) rfl ?_)
          have hlen : ss.length < es.size := by
            have h1 : (cons ++ [en]).length ≤ es.toList.length := by
              obtain ⟨seen, c0, _, _, _, hm⟩ := hR.iter
              exact nodup_len hR.nodup (fun y hy => ((hm y).1 hy).1)
            have h2 : cons.length = ss.length := by have := congrArg List.length hc; simpa using this
            simp only [List.length_append, List.length_cons, List.length_nil, Array.length_toList] at h1
            omega
          refine WLI.yield (Φ := fun v w => v = .bool true ∧ I (ss ++ [x], cons ++ [en], left') w) guard_none rfl rfl rfl (fun w hs => ?_) (fun v => ?_)
          · have hstp := Stp.of_st hs W.heap.size
            have hkw : KeepsWalks w1 w := ⟨hs.size, fun k o hk' _ => by rw [hs.block k (Array.getElem?_eq_some_iff.1 hk').1 (fun _ _ e => by simp [Lo.get] at e)]; exact hk'⟩
            obtain ⟨fn', tm, as1, bo, q1, q2⟩ := hY ss x w (hA _ _ _ hJ hstp) hok hlen
            refine ⟨fn', tm, as1, bo, q1, q2.mono fun e w' ⟨e1, e2, e3⟩ => ⟨_, e1, rfl, e2, (hR.stp hkw).stp e3, ?_⟩⟩
            simp [hc, hkx]
          · intro a w ha hs
            obtain ⟨rfl, hs⟩ := hs
            suffices hq : WLI P 14 _ _ _ _ (I (ss ++ [x], cons ++ [en], left')) from hq a w ha hs
            refine WLI.y0 guard_none (Y0.not rfl) (fun c h => by cases h) rfl (WLI.nil (WE.then (WC.condF rfl (WC.skip (WE.inBlock ?_)))))
            exact fun a w ha hs => ⟨(ss ++ [x], cons ++ [en], left'), hlt, ha.weaken (Fr.sub_cons rfl (Fr.sub_cons rfl (Fr.sub_nil _))), hs⟩
end
end Go.EL
