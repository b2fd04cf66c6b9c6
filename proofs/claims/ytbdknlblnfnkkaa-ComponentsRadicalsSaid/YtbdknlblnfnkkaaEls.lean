/- Iterators over a map's keys: keys of one cell; slices.AppendSeq. The conditions stand in each statement. -/
import Derived.Test.YtbdknlblnfnkkaaElr
namespace Go.EL
open Go Go.RowKit Go.Proofs Go.MapKept

section
variable {P : Program} {K : Type}
/-- maps.Keys' iterator, at keys of one cell. -/
theorem keysS {f : Nat} {fn : Func} {tM kt e : TypeId} {enc : K → Value} {ok : K → Prop} {i0 i1 i2 i3 : Nat} {y4 y5 y6 y7 y8 y9 y3 y10 y11 y12 y13 tn : TypeId} {p4 p5 p6 p7 p8 p9 p3 p10 p11 p12 p13 : String} {a4 a5 a6 a7 a8 a9 a3 a10 a11 a12 a13 : Array Edge} {ts : Array TypeId}
    (hf : P.funcs[f]? = some fn)
    (hb : fn.body = some (.seq (.region i0 #[⟨some 4, .load tM (.tmp 1), y4, p4, a4, none⟩, ⟨some 5, .range tM (.tmp 4), y5, p5, a5, none⟩] false)
      (.block 0 (.loop (.seq (.region i1 #[⟨some 6, .next (.tmp 5) false, y6, p6, a6, none⟩, ⟨some 7, .extract (.tmp 6) 0, y7, p7, a7, none⟩] false)
        (.seq (.cond (.tmp 7) .skip (.exit 0)) (.block 1 (.seq (.region i2 #[⟨some 8, .entry (.tmp 5), y8, p8, a8, none⟩, ⟨some 9, .extract (.tmp 8) 0, y9, p9, a9, none⟩, ⟨some 3, .assign (.tmp 9), y3, p3, a3, none⟩] false)
          (.seq (.region i3 #[⟨some 10, .move (.tmp 0), y10, p10, a10, none⟩, ⟨some 11, .move (.tmp 3), y11, p11, a11, none⟩, ⟨some 12, .call ⟨.value (.tmp 10), #[.tmp 11], ts⟩, y12, p12, a12, none⟩, ⟨some 13, .unOp .not tn (.tmp 12), y13, p13, a13, none⟩] false)
            (.cond (.tmp 13) .ret .skip))))))))))
    (hN : fn.ntmps = 14) (hr : fn.results = #[]) (hM : ScalT P tM) (hu : P.underlying tM = some (.map kt e))
    {w : World} {Bm b : Nat} {es : Array MapEntry} {clock : Nat} (hcell : w.cell? ⟨Bm, 0, none⟩ = some (.map (some b))) (hmap : w.heap[b]? = some (.map es clock)) (hS : Stamped es clock) (hk : ∀ en ∈ es.toList, ∃ x, ok x ∧ en.key = enc x) :
    Gives P f #[.pointer (some ⟨Bm, 0, none⟩)] (fun x => enc x) ok (fun xs => ∃ cons : List MapEntry, cons.Perm es.toList ∧ cons.map (·.key) = xs.map fun x => enc x) es.size w := by
  intro l J W hW hA hY h0
  have hcW : W.cell? ⟨Bm, 0, none⟩ = some (.map (some b)) := by
    obtain ⟨ob, h1, h2⟩ := not_walk_of_cell hcell
    have h1 : w.heap[Bm]? = some ob := h1
    have h1' := hW Bm ob h1
    simp only [World.cell?, h1] at hcell
    simp only [World.cell?, h1']
    exact hcell
  have hmW := hW b _ hmap
  suffices hwc : WC P 14 _ (bodyPost P fn fun e W' => (∃ v, e = .returned v) ∧ ∃ xs : List K, (∃ cons : List MapEntry, cons.Perm es.toList ∧ cons.map (·.key) = xs.map fun x => enc x) ∧ J xs W') (argFr [.func (.yield l) #[] #[], .pointer (some ⟨Bm, 0, none⟩)] 0) (fun w => w = W) by
    refine calls_of_wp hf hb (hwc _ W ⟨rfl, by rw [hN]; rfl, fun t v hv => ?_⟩ rfl)
    obtain ⟨_, h2⟩ := argFr_get _ 0 t v hv
    simp only [Nat.sub_zero] at h2
    have hlt := (List.getElem?_eq_some_iff.1 h2).1
    rw [Array.getElem?_append_left (by simpa using hlt)]
    simpa using h2
  have hbl : b < W.heap.size := (Array.getElem?_eq_some_iff.1 hmW).1
  let I : List K × List MapEntry × Nat → Asrt := fun x w => J x.1 w ∧ Rng b W.heap.size es clock x.2.1 x.2.2 w ∧ x.2.1.map (·.key) = x.1.map fun x => enc x
  refine WC.seq (WC.region (WL.y0' guard_none (Y0.loadW hM rfl (fun w hw => by subst hw; exact hcW)) rfl ?_))
  refine WL.yr (Φ := fun v w => v = .pointer (some ⟨W.heap.size, 0, none⟩) ∧ I ([], [], (leftOf es #[]).size) w) guard_none (fun a w ha hs => ?_) rfl (fun v a w ha hs => ?_)
  · subst hs
    have : (execOp a.eval ⟨some 5, .range tM (.tmp 4), y5, p5, a5, none⟩).run P w = .ok (.value (.pointer (some ⟨w.heap.size, 0, none⟩))) (w.alloc (.mapIter (some b) clock #[] clock)) := by
      simp [execOp, ha.ev (x := .tmp 4) (v := .map (some b)) rfl, Instr.range, run_underlying hu, MapKept.run_getObj_map hmW, Result.andThen, run_newObj_alloc]
    rw [this]
    refine ⟨rfl, hA _ _ _ h0 (Stp.alloc _ _ _), ⟨(Below.heap_alloc _ _ b hbl).trans hmW, ⟨#[], clock, World.alloc_heap_new _ _, Nat.le_refl _, rfl, fun x => ?_⟩, List.nodup_nil⟩, rfl⟩
    simp
  · obtain ⟨rfl, hs⟩ := hs
    suffices hq : WL P 14 _ _ [] _ (I ([], [], (leftOf es #[]).size)) from hq a w ha hs
    refine WL.nil (WE.then (WC.block (WC.loopM (X := List K × List MapEntry × Nat) (fun x => x.2.2) (fun _ => [(0, .func (.yield l) #[] #[]), (5, .pointer (some ⟨W.heap.size, 0, none⟩))]) I ([], [], (leftOf es #[]).size) (Fr.sub_cons rfl (Fr.sub_cons rfl (Fr.sub_nil _))) (fun _ h => h) ?_)))
    rintro ⟨ss, cons, left⟩
    refine WC.seq (WC.region ?_)
    refine WL.yr (Φ := fun v w => (v = .tuple #[.bool false] ∧ left = 0 ∧ I (ss, cons, left) w) ∨ ∃ en ∈ es.toList, ∃ left', v = .tuple #[.bool true, en.key, en.val] ∧ ((¬ en ∈ cons) ∧ J ss w ∧ Rng b W.heap.size es clock (cons ++ [en]) left' w ∧ left' < left ∧ cons.map (·.key) = ss.map (fun x => enc x) ∧ (Instr.entry (.pointer (some ⟨W.heap.size, 0, none⟩))).run P w = .ok (.tuple #[en.key, en.val]) w)) guard_none (fun a w ha hs => ?_) rfl (fun v a w ha hs => ?_)
    · obtain ⟨hJ, hR, hc⟩ := hs
      rcases hR.next (P := P) hS y6 with ⟨h1, h2⟩ | ⟨en, h1, w', left', h2, h3, h4, h5, h6, h7⟩
      · have : (execOp a.eval ⟨some 6, .next (.tmp 5) false, y6, p6, a6, none⟩).run P w = .ok (.value (.tuple #[.bool false])) w := by
          simp [execOp, ha.ev (x := .tmp 5) (v := .pointer (some ⟨W.heap.size, 0, none⟩)) rfl, h2]
        rw [this]
        exact .inl ⟨rfl, h1, hJ, hR, hc⟩
      · have : (execOp a.eval ⟨some 6, .next (.tmp 5) false, y6, p6, a6, none⟩).run P w = .ok (.value (.tuple #[.bool true, en.key, en.val])) w' := by
          simp [execOp, ha.ev (x := .tmp 5) (v := .pointer (some ⟨W.heap.size, 0, none⟩)) rfl, h3]
        rw [this]
        exact .inr ⟨en, h1, left', rfl, h2, hA _ _ _ hJ (h7 _ (Nat.le_refl _)), h4, h5, hc, h6⟩
    · rcases hs with ⟨rfl, rfl, hs⟩ | ⟨en, hen', left', rfl, hs⟩
      · -- nothing is left
        suffices hq : WL P 14 _ _ _ _ (I (ss, cons, 0)) from hq a w ha hs
        refine WL.y0' guard_none (Y0.extract rfl rfl) rfl (WL.nil (WE.then (WC.seq (WC.condF rfl (WC.exit (WE.thenExit (WE.thenExit (WE.exitHere ?_))))))))
        rintro a w ha ⟨hJ, hR, hc⟩
        exact ⟨ha.defers, .tuple #[], by simp [results, hr], ⟨_, rfl⟩, ss, ⟨cons, hR.done hS, hc⟩, hJ⟩
      · suffices hq : WL P 14 _ _ _ _ (fun w => (¬ en ∈ cons) ∧ J ss w ∧ Rng b W.heap.size es clock (cons ++ [en]) left' w ∧ left' < left ∧ cons.map (·.key) = ss.map (fun x => enc x) ∧ (Instr.entry (.pointer (some ⟨W.heap.size, 0, none⟩))).run P w = .ok (.tuple #[en.key, en.val]) w) from hq a w ha hs
        refine WL.y0' guard_none (Y0.extract rfl rfl) rfl (WL.nil (WE.then (WC.seq (WC.condT rfl (WC.skip (WE.then (WC.block (WC.seq (WC.region ?_)))))))))
        obtain ⟨x, hok, hkx⟩ := hk en hen'
        refine WL.y0' (v := .tuple #[enc x, en.val]) guard_none (fun a w ha hs => ?_) rfl (WL.y0' guard_none (Y0.extract rfl rfl) rfl ?_)
        · simp [execOp, ha.ev (x := .tmp 5) (v := .pointer (some ⟨W.heap.size, 0, none⟩)) rfl, hs.2.2.2.2.2, hkx]
        · intro a w1 ha hs
          obtain ⟨hnc, hJ, hR, hlt, hc, _⟩ := hs
          have hst : St ⟨w1, []⟩ (fun _ _ => none) (fun _ _ => none) [] w1 := (Hp.empty w1).st
          revert a ha
          suffices h : WL P 14 _ _ _ _ (St ⟨w1, []⟩ (fun _ _ => none) (fun _ _ => none) []) from fun a ha => h a w1 ha hst
          refine WL.y0' guard_none (Y0.assign rfl) rfl (WL.nil (WE.then (WC.seq (WC.regionI ?_))))
          refine WLI.y0 guard_none (Y0.move rfl) (fun c h => by cases h) rfl (WLI.y0 guard_none (Y0.move rfl) (fun c h => by cases h) rfl ?_)
          have hlen : ss.length < es.size := by
            have h1 : (cons ++ [en]).length ≤ es.toList.length := by
              obtain ⟨seen, c0, _, _, _, hm⟩ := hR.iter
              exact nodup_len hR.nodup (fun y hy => ((hm y).1 hy).1)
            have h2 : cons.length = ss.length := by have := congrArg List.length hc; simpa using this
            simp only [List.length_append, List.length_cons, List.length_nil, Array.length_toList] at h1
            omega
          refine WLI.yield (Φ := fun v w => v = .bool true ∧ I (ss ++ [x], cons ++ [en], left') w) guard_none rfl rfl rfl (fun w hs => ?_) (fun v => ?_)
          · have hstp := Stp.of_st hs W.heap.size
            have hkw : KeepsWalks w1 w := ⟨hs.size, fun k o hk' _ => by rw [hs.block k (Array.getElem?_eq_some_iff.1 hk').1 (fun _ _ e => by simp [Lo.get] at e)]; exact hk'⟩
            obtain ⟨fn', tm, as1, bo, q1, q2⟩ := hY ss x w (hA _ _ _ hJ hstp) hok hlen
            refine ⟨fn', tm, as1, bo, q1, q2.mono fun e w' ⟨e1, e2, e3⟩ => ⟨_, e1, rfl, e2, (hR.stp hkw).stp e3, ?_⟩⟩
            simp [hc, hkx]
          · intro a w ha hs
            obtain ⟨rfl, hs⟩ := hs
            suffices hq : WLI P 14 _ _ _ _ (I (ss ++ [x], cons ++ [en], left')) from hq a w ha hs
            refine WLI.y0 guard_none (Y0.not rfl) (fun c h => by cases h) rfl (WLI.nil (WE.then (WC.condF rfl (WC.skip (WE.inBlock ?_)))))
            exact fun a w ha hs => ⟨(ss ++ [x], cons ++ [en], left'), hlt, ha.weaken (Fr.sub_cons rfl (Fr.sub_cons rfl (Fr.sub_nil _))), hs⟩
/-- slices.AppendSeq(nil, seq), at elements of many cells. -/
theorem appA {f g : Nat} {fn : Func} {lb : Array Value} {tS e : TypeId} {n bytes N : Nat} {z : Value} {enc : K → Array Value} {ok : K → Prop} {r : Rp K} {Sx : List K → Prop} {i0 i1 i2 i3 i4 : Nat} {y2 y4 y6 y5 y7 y8 y9 y10 y11 y13 y12 y14 : TypeId} {p2 p4 p6 p5 p7 p8 p9 p10 p11 p13 p12 p14 : String} {a2 a4 a6 a5 a7 a8 a9 a10 a11 a13 a12 a14 : Array Edge}
    (hf : P.funcs[f]? = some fn)
    (hb : fn.body = some (.seq (.region i0 #[⟨some 2, .box tS (.tmp 0), y2, p2, a2, none⟩, ⟨some 4, .assign (.const (.slice none 0 0)), y4, p4, a4, none⟩] false)
      (.seq (.seq (.region i1 #[⟨some 6, .move (.tmp 1), y6, p6, a6, none⟩] false) (.block 0 (.rangeFunc (.tmp 6) #[7] (.region i2 #[⟨some 5, .alloc e, y5, p5, a5, none⟩, ⟨none, .store e (.tmp 5) (.tmp 7), y7, p7, a7, none⟩] false) (.block 1 (.region i3 #[⟨some 8, .load tS (.tmp 2), y8, p8, a8, none⟩, ⟨some 9, .load e (.tmp 5), y9, p9, a9, none⟩, ⟨some 10, .buildSlice tS 1 #[(0, .tmp 9)], y10, p10, a10, none⟩, ⟨some 11, .call ⟨.builtin .append, #[.tmp 8, .tmp 10], #[tS, tS]⟩, y11, p11, a11, none⟩, ⟨none, .store tS (.tmp 2) (.tmp 11), y13, p13, a13, none⟩] false)))))
        (.seq (.region i4 #[⟨some 12, .load tS (.tmp 2), y12, p12, a12, none⟩, ⟨some 4, .assign (.tmp 12), y14, p14, a14, none⟩] false) .ret))))
    (hN : fn.ntmps = 13) (hr : fn.results = #[.tmp 4]) (hS : ScalT P tS) (hSz : (P.info? tS).map (·.size) = some 1) (hu : P.underlying tS = some (.slice e)) (hE : ElT P e z r.size bytes) (hzs : z.cells.size = r.size) (hby : bytes ≤ 100000) (hz : (P.info? e).map (·.zero) = some (some z)) (hzc : z.cells.size = n) (hK : AggT P e n) (hsz : (P.info? e).map (·.size) = some n) (hen : ∀ x, (enc x).size = n) (hone : ∀ x, ∀ u ∈ (enc x).toList, u.oneCell' = true)
    (hrep : ∀ G x, r.rep G (enc x).toList x) (hlit : ∀ x w, (Instr.buildSlice tS 1 #[(0, .agg (enc x))]).run P w = .ok (.slice (some ⟨w.heap.size, 0, none⟩) 1 1) (w.alloc (.cells (enc x).toList.toArray e)))
    (hg : ∀ args w, (callFunc g args).run P w = .ok (.enter g args) w) (hNs : N ≤ small) {w : World} {G : Mem} (hi : Imm G w) (hG : Gives P g lb (fun x => .agg (enc x)) ok Sx N w) :
    Calls P f #[.slice none 0 0, .func (.func g) #[] lb] w (RetL ⟨w, []⟩ G (fun G' L' v => ∃ xs p c tk, L' = [(7000, tk)] ∧ v = .slice p xs.length c ∧ RowR r e G' v xs tk ∧ Sx xs)) := by
  refine (callsIn_wide (n := 0)).1 (callsIn_of_wp_marks hf hb trivial ((wpIn_wide (n := 0)).2 ?_))
  have hHp : Hp G [] w := ⟨hi, by intro _ _ h; simp [Lo.get] at h, by intro _ _ _ _ _ h; simp [Lo.get] at h⟩
  suffices hwc : WC P 13 _ (bodyPostM Fence.wide 0 P fn (RetL ⟨w, []⟩ G (fun G' L' v => ∃ xs p c tk, L' = [(7000, tk)] ∧ v = .slice p xs.length c ∧ RowR r e G' v xs tk ∧ Sx xs))) (argFr [.slice none 0 0, .func (.func g) #[] lb] 0) (St ⟨w, []⟩ G G []) by
    refine hwc _ w ⟨rfl, by rw [hN]; rfl, fun t v hv => ?_⟩ hHp.st
    obtain ⟨_, h2⟩ := argFr_get _ 0 t v hv
    simp only [Nat.sub_zero] at h2
    have hlt := (List.getElem?_eq_some_iff.1 h2).1
    rw [Array.getElem?_append_left (by simpa using hlt)]
    simpa using h2
  refine WC.seq (WC.region (WL.box 2 guard_none rfl rfl (fun B => WL.y0' guard_none (Y0.assign rfl) rfl (WL.nil (WE.then (WC.seq (WC.seq (WC.region (WL.y0' guard_none (Y0.move rfl) rfl (WL.nil (WE.then (WC.block ?_)))))))))))) 
  intro a w1 ha hs
  refine (wpIn_wide (n := 0)).1 (wpIn_rangeFunc ?_)
  intro fnid _
  let rec' : Loop := { state := .ready, pending := none, fn := fnid, tmps := a.tmps, params := #[7], assign := .region i2 #[⟨some 5, .alloc e, y5, p5, a5, none⟩, ⟨none, .store e (.tmp 5) (.tmp 7), y7, p7, a7, none⟩] false, body := .block 1 (.region i3 #[⟨some 8, .load tS (.tmp 2), y8, p8, a8, none⟩, ⟨some 9, .load e (.tmp 5), y9, p9, a9, none⟩, ⟨some 10, .buildSlice tS 1 #[(0, .tmp 9)], y10, p10, a10, none⟩, ⟨some 11, .call ⟨.builtin .append, #[.tmp 8, .tmp 10], #[tS, tS]⟩, y11, p11, a11, none⟩, ⟨none, .store tS (.tmp 2) (.tmp 11), y13, p13, a13, none⟩] false), defers := w1.heap.size }
  have hs1 : St ⟨w, []⟩ G G _ ((w1.alloc (.deferred (some []))).alloc (.loop rec')) := (hs.push 8002 (.deferred (some []))).push 8001 (.loop rec')
  have hl1 : (w1.alloc (.deferred (some []))).heap.size = w1.heap.size + 1 := by simp
  rw [hl1] at hs1
  refine ⟨w1.heap.size + 1, [{ target := .collected w1.heap.size, args := #[] }], ((w1.alloc (.deferred (some []))).alloc (.loop rec')), { target := .fn (.func g) lb, args := #[.func (.yield (w1.heap.size + 1)) #[] #[]] }, ((w1.alloc (.deferred (some []))).alloc (.loop rec')), g, #[.func (.yield (w1.heap.size + 1)) #[] #[]] ++ lb, ((w1.alloc (.deferred (some []))).alloc (.loop rec')), run_enterLoop_outer _ _ _ _ _, ?_, fun _ _ => trivial, ?_, fun h => by simp [Fence.wide] at h, ?_⟩
  · have e6 := ha.here 6 (.func (.func g) #[] lb) rfl
    simp [resolve, rangeCall, Deferred.ofValue, Act.eval, e6]
  · simp [invoke, hg]
  refine (callsIn_wide (n := 0)).2 ?_
  let J : List K → World → Prop := fun xs W => ∃ G' p c tk, St ⟨w, []⟩ G G' [(8001, some ⟨w1.heap.size + 1, .loop rec', 0⟩), (8002, some ⟨w1.heap.size, .deferred (some []), 0⟩), (2, some ⟨B, .cells #[.slice p xs.length c] tS (0, 0), 0⟩), (7000, tk)] W ∧ RowR r e G' (.slice p xs.length c) xs tk
  have hrn : RowR r e G (.slice none 0 0) ([] : List K) none := RowR.nil
  refine Calls.mono (hG (w1.heap.size + 1) J _ (fun k o hk => ?_) (fun xs W1 W2 hJ hst => ?_) (fun pre x W1 hJ hok hlen => ?_) ⟨G, none, 0, none, hs1.weaken (Lo.sub_cons rfl (Lo.sub_cons rfl (Lo.sub_cons rfl (Lo.sub_no (Lo.sub_nil _))))), hrn⟩) (fun en W2 hq => ?_)
  · have hk' := (Array.getElem?_eq_some_iff.1 hk).1
    rw [hs1.block k hk' (fun _ _ h => by simp [Lo.get] at h)]; exact hk
  · obtain ⟨G', p, c, tk, h1, h2⟩ := hJ
    refine ⟨G', p, c, tk, h1.stp hst ?_ (fun i x hx => ?_), h2⟩
    · have := hs1.size; exact this
    · simp only [Lo.get_cons] at hx
      split at hx
      · cases hx; rfl
      · split at hx
        · cases hx; rfl
        · split at hx
          · cases hx; rfl
          · split at hx
            · cases tk with
              | none => cases hx
              | some y =>
                cases hx
                obtain ⟨_, _, _, _, e2, _⟩ := h2
                rw [e2]; rfl
            · simp [Lo.get] at hx
  · obtain ⟨G1, p, c, tk, h1, h2⟩ := hJ
    have hlb := (h1.loc 8001 _ rfl).1
    refine ⟨fnid, a.tmps.setIfInBounds 7 (.agg (enc x)), rec'.assign, rec'.body, (by simpa [rec'] using run_yield (P := P) (args := #[.agg (enc x)]) hlb rfl), ?_⟩
    let L1 : Lo := [(8001, some ⟨w1.heap.size + 1, .loop rec', 0⟩), (2, some ⟨B, .cells #[.slice p pre.length c] tS (0, 0), 0⟩), (7000, tk)]
    have hL1 : Lo.sub L1 [(8001, some ⟨w1.heap.size + 1, .loop rec', 0⟩), (8002, some ⟨w1.heap.size, .deferred (some []), 0⟩), (2, some ⟨B, .cells #[.slice p pre.length c] tS (0, 0), 0⟩), (7000, tk)] := Lo.sub_cons rfl (Lo.sub_cons rfl (Lo.sub_cons rfl (Lo.sub_nil _)))
    have hrel : Rel 13 [(2, .pointer (some ⟨B, 0, none⟩)), (7, .agg (enc x))] ⟨a.tmps.setIfInBounds 7 (.agg (enc x)), []⟩ := by
      refine ⟨rfl, by simpa using ha.size, fun t v hv => ?_⟩
      rw [Fr.get_cons] at hv
      split at hv
      · rename_i ht; subst ht; cases hv
        rw [Array.getElem?_setIfInBounds_ne (by decide)]
        exact ha.here 2 _ rfl
      · rw [Fr.get_cons] at hv
        split at hv
        · rename_i ht; subst ht; cases hv
          rw [Array.getElem?_setIfInBounds_self_of_lt (by rw [ha.size]; decide)]
        · simp [Fr.get] at hv
    refine (round_of (P := P) (N := 13) (opsA := [⟨some 5, .alloc e, y5, p5, a5, none⟩, ⟨none, .store e (.tmp 5) (.tmp 7), y7, p7, a7, none⟩]) (opsB := [⟨some 8, .load tS (.tmp 2), y8, p8, a8, none⟩, ⟨some 9, .load e (.tmp 5), y9, p9, a9, none⟩, ⟨some 10, .buildSlice tS 1 #[(0, .tmp 9)], y10, p10, a10, none⟩, ⟨some 11, .call ⟨.builtin .append, #[.tmp 8, .tmp 10], #[tS, tS]⟩, y11, p11, a11, none⟩, ⟨none, .store tS (.tmp 2) (.tmp 11), y13, p13, a13, none⟩]) (post := fun G2 L2 => Mem.le G1 G2 ∧ ∃ p' c' tk', Lo.sub [(2, some ⟨B, .cells #[.slice p' (pre ++ [x]).length c'] tS (0, 0), 0⟩), (7000, tk')] L2 ∧ RowR r e G2 (.slice p' (pre ++ [x]).length c') (pre ++ [x]) tk') rfl rfl rfl rfl ?_ ?_ hrel (h1.hp hL1) rfl ?_).mono ?_
    · intro o ho c'; simp only [List.mem_cons, List.not_mem_nil, or_false] at ho; rcases ho with rfl | rfl <;> (intro h; cases h)
    · intro o ho c'; simp only [List.mem_cons, List.not_mem_nil, or_false] at ho; rcases ho with rfl | rfl | rfl | rfl | rfl <;> (intro h; cases h)
    · refine WL.alloc 5 guard_none hz rfl (fun b5 => WL.storeLA 5 guard_none hsz rfl rfl rfl hzc (hen x) (hone x) (WL.nil ?_))
      intro a1 v1 ha1 hs2
      refine ⟨rfl, _, _, _, ha1, hs2, rfl, ?_⟩
      refine WL.y0' guard_none (Y0.loadL 2 hS rfl rfl rfl) rfl (WL.y0' guard_none (Y0.loadLA 5 hK rfl rfl (hen x)) rfl ?_)
      refine WL.litR (e := e) (r := r) (vs := #[(0, .agg (enc x))]) (cs := (enc x).toList) ([x] : List K) guard_none rfl rfl rfl rfl (by decide) (fun w => hlit x w) (RepL.single (hrep _ x)) (key := 999) rfl rfl (fun q G2 hle hq => ?_)
      refine WL.appendT (r := r) (e := e) 7000 guard_none rfl hu hE hzs hby rfl rfl (h2.mono hle) rfl hq (by simp only [List.length_append, List.length_cons, List.length_nil]; omega) (fun p' c' tk' hrow => ?_)
      refine WL.storeL 2 #[.slice p' (pre ++ [x]).length c'] guard_none hSz rfl rfl rfl (by simp) rfl rfl (WL.nil ?_)
      exact fun a2 v2 _ hs3 => ⟨rfl, _, _, hs3, rfl, hle, p', c', tk', Lo.sub_cons rfl (Lo.sub_cons rfl (Lo.sub_nil _)), hrow⟩
    · rintro e' W2 ⟨e1, G2, L2, hx, hle, p', c', tk', hsub, hrow⟩
      refine ⟨e1, ⟨G2, p', c', tk', ?_, hrow⟩, ⟨hx.size, fun k o hk ho => ?_⟩⟩
      · refine h1.ext (R := [(8002, some ⟨w1.heap.size, .deferred (some []), 0⟩)]) hx hL1 (Lo.sub_cons rfl (Lo.sub_nil _)) (fun i y hy => ?_) (fun _ _ _ _ _ z hz' => by simp [Lo.get] at hz') (fun i y hy => ?_)
        · rw [Lo.get_cons] at hy
          split at hy
          · rename_i hi'; subst hi'; rfl
          · simp [Lo.get] at hy
        · rw [Lo.get_cons] at hy
          split at hy
          · rename_i hi'; subst hi'; left; rw [Lo.get_cons, if_pos rfl]; exact hy
          · rename_i hi1
            rw [Lo.get_cons] at hy
            split at hy
            · rename_i hi2; right; rw [Lo.get_cons, if_pos hi2]; exact hy
            · left; rw [Lo.get_cons, if_neg hi1]; exact hsub i y hy
      · refine (hx.block k (Array.getElem?_eq_some_iff.1 hk).1 (fun i y hy hyk => ?_)).trans hk
        have hyo := (h1.loc i y (hL1 i y hy)).1
        rw [hyk, hk] at hyo
        have hoo : y.o.isWalk = true := by cases hyo; exact ho
        simp only [L1, Lo.get_cons] at hy
        split at hy
        · cases hy; cases hoo
        · split at hy
          · cases hy; cases hoo
          · split at hy
            · cases tk with
              | none => cases hy
              | some q =>
                cases hy
                obtain ⟨_, _, _, _, e2, _⟩ := h2
                rw [e2] at hoo; cases hoo
            · simp [Lo.get] at hy
  · obtain ⟨⟨v0, rfl⟩, xs, hSx, G', p, c, tk, h1, h2⟩ := hq
    have hend := run_endLoop (P := P) (h1.loc 8001 _ rfl).1 (by simp [rec'])
    have h3 := h1.putLoop (r' := { rec' with state := .exhausted }) (key := 8001) rfl
    refine ⟨none, _, hend, ?_⟩
    refine wp_seq (wp_region_lit ?_)
    have hc := cell_of_row _ B 0 _ tS (0, 0) (h3.loc 2 _ rfl).1
    have hc' := run_loadVar_scal (P := P) hS (hc.trans rfl)
    unfold wpList
    rw [if_pos (by rfl)]
    refine .inl ?_
    have r1 : (execOp ({ a with defers := [{ target := .collected w1.heap.size, args := #[] }] ++ a.defers } : Act).eval ⟨some 12, .load tS (.tmp 2), y12, p12, a12, none⟩).run P (W2.putObj (w1.heap.size + 1) (.loop { rec' with state := .exhausted })) = .ok (.value (.slice p xs.length c)) (W2.putObj (w1.heap.size + 1) (.loop { rec' with state := .exhausted })) := by
      have e9 := ha.here 2 (.pointer (some ⟨B, 0, none⟩)) rfl
      simp [execOp, Act.eval, e9, Instr.loadAt, Instr.sureAddr, hc']
    unfold Oper.wp
    rw [r1]
    show wpList _ _ _ _ _ _
    unfold wpList
    rw [if_pos (by rfl)]
    refine .inl ?_
    have hsz : a.tmps.size = 13 := ha.size
    have r2 : (execOp ((({ a with defers := [{ target := .collected w1.heap.size, args := #[] }] ++ a.defers } : Act).put (some 12) (.slice p xs.length c))).eval ⟨some 4, .assign (.tmp 12), y14, p14, a14, none⟩).run P (W2.putObj (w1.heap.size + 1) (.loop { rec' with state := .exhausted })) = .ok (.value (.slice p xs.length c)) (W2.putObj (w1.heap.size + 1) (.loop { rec' with state := .exhausted })) := by
      simp [execOp, Act.eval, Act.put, hsz]
    unfold Oper.wp
    rw [r2]
    refine wp_ret ?_
    show LeavesInM _ _ _ _ _ _ _ _ _
    have e3 : ((({ a with defers := [{ target := .collected w1.heap.size, args := #[] }] ++ a.defers } : Act).put (some 12) (.slice p xs.length c)).put (some 4) (.slice p xs.length c)).defers = [{ target := .collected w1.heap.size, args := #[] }] := by
      simp [Act.put, ha.defers]
    rw [e3]
    refine ⟨by simp, .inl ⟨_, _, rfl, run_takeDeferred (h3.loc 8002 _ rfl).1, ?_⟩⟩
    refine ⟨.slice p xs.length c, ?_, ?_⟩
    · rw [results_tmp hr]
      simp [Act.put, hsz]
    · refine ⟨_, G', [(7000, tk)], rfl, ?_, xs, p, c, tk, rfl, rfl, h2, hSx⟩
      have hdl := (Array.getElem?_eq_some_iff.1 (h3.loc 8002 _ rfl).1).1
      have h4 := h3.upd (i := 8002) (m' := 0) (w' := World.putObj _ w1.heap.size (.deferred none)) rfl (World.putObj_heap_same hdl) (Nat.le_refl _) (fun k _ hk => absurd hk (Nat.not_lt_zero k)) (fun k hk => World.putObj_heap_other hk) rfl rfl rfl rfl (by simp)
      exact (h4.weaken (Lo.sub_cons rfl (Lo.sub_nil _))).toExt
/-- slices.AppendSeq(nil, seq), at elements of one cell. -/
theorem appS {f g : Nat} {fn : Func} {lb : Array Value} {tS e : TypeId} {bytes N : Nat} {z : Value} {enc : K → Value} {ok : K → Prop} {r : Rp K} {Sx : List K → Prop} {i0 i1 i2 i3 i4 : Nat} {y2 y4 y6 y5 y8 y9 y10 y11 y13 y12 y14 : TypeId} {p2 p4 p6 p5 p8 p9 p10 p11 p13 p12 p14 : String} {a2 a4 a6 a5 a8 a9 a10 a11 a13 a12 a14 : Array Edge}
    (hf : P.funcs[f]? = some fn)
    (hb : fn.body = some (.seq (.region i0 #[⟨some 2, .box tS (.tmp 0), y2, p2, a2, none⟩, ⟨some 4, .assign (.const (.slice none 0 0)), y4, p4, a4, none⟩] false)
      (.seq (.seq (.region i1 #[⟨some 6, .move (.tmp 1), y6, p6, a6, none⟩] false) (.block 0 (.rangeFunc (.tmp 6) #[7] (.region i2 #[⟨some 5, .assign (.tmp 7), y5, p5, a5, none⟩] false) (.block 1 (.region i3 #[⟨some 8, .load tS (.tmp 2), y8, p8, a8, none⟩, ⟨some 9, .move (.tmp 5), y9, p9, a9, none⟩, ⟨some 10, .buildSlice tS 1 #[(0, .tmp 9)], y10, p10, a10, none⟩, ⟨some 11, .call ⟨.builtin .append, #[.tmp 8, .tmp 10], #[tS, tS]⟩, y11, p11, a11, none⟩, ⟨none, .store tS (.tmp 2) (.tmp 11), y13, p13, a13, none⟩] false)))))
        (.seq (.region i4 #[⟨some 12, .load tS (.tmp 2), y12, p12, a12, none⟩, ⟨some 4, .assign (.tmp 12), y14, p14, a14, none⟩] false) .ret))))
    (hN : fn.ntmps = 13) (hr : fn.results = #[.tmp 4]) (hS : ScalT P tS) (hSz : (P.info? tS).map (·.size) = some 1) (hu : P.underlying tS = some (.slice e)) (hE : ElT P e z r.size bytes) (hzs : z.cells.size = r.size) (hby : bytes ≤ 100000) 
    (hrep : ∀ G x, r.rep G [enc x] x) (hlit : ∀ x w, (Instr.buildSlice tS 1 #[(0, enc x)]).run P w = .ok (.slice (some ⟨w.heap.size, 0, none⟩) 1 1) (w.alloc (.cells [enc x].toArray e)))
    (hg : ∀ args w, (callFunc g args).run P w = .ok (.enter g args) w) (hNs : N ≤ small) {w : World} {G : Mem} (hi : Imm G w) (hG : Gives P g lb (fun x => enc x) ok Sx N w) :
    Calls P f #[.slice none 0 0, .func (.func g) #[] lb] w (RetL ⟨w, []⟩ G (fun G' L' v => ∃ xs p c tk, L' = [(7000, tk)] ∧ v = .slice p xs.length c ∧ RowR r e G' v xs tk ∧ Sx xs)) := by
  refine (callsIn_wide (n := 0)).1 (callsIn_of_wp_marks hf hb trivial ((wpIn_wide (n := 0)).2 ?_))
  have hHp : Hp G [] w := ⟨hi, by intro _ _ h; simp [Lo.get] at h, by intro _ _ _ _ _ h; simp [Lo.get] at h⟩
  suffices hwc : WC P 13 _ (bodyPostM Fence.wide 0 P fn (RetL ⟨w, []⟩ G (fun G' L' v => ∃ xs p c tk, L' = [(7000, tk)] ∧ v = .slice p xs.length c ∧ RowR r e G' v xs tk ∧ Sx xs))) (argFr [.slice none 0 0, .func (.func g) #[] lb] 0) (St ⟨w, []⟩ G G []) by
    refine hwc _ w ⟨rfl, by rw [hN]; rfl, fun t v hv => ?_⟩ hHp.st
    obtain ⟨_, h2⟩ := argFr_get _ 0 t v hv
    simp only [Nat.sub_zero] at h2
    have hlt := (List.getElem?_eq_some_iff.1 h2).1
    rw [Array.getElem?_append_left (by simpa using hlt)]
    simpa using h2
  refine WC.seq (WC.region (WL.box 2 guard_none rfl rfl (fun B => WL.y0' guard_none (Y0.assign rfl) rfl (WL.nil (WE.then (WC.seq (WC.seq (WC.region (WL.y0' guard_none (Y0.move rfl) rfl (WL.nil (WE.then (WC.block ?_)))))))))))) 
  intro a w1 ha hs
  refine (wpIn_wide (n := 0)).1 (wpIn_rangeFunc ?_)
  intro fnid _
  let rec' : Loop := { state := .ready, pending := none, fn := fnid, tmps := a.tmps, params := #[7], assign := .region i2 #[⟨some 5, .assign (.tmp 7), y5, p5, a5, none⟩] false, body := .block 1 (.region i3 #[⟨some 8, .load tS (.tmp 2), y8, p8, a8, none⟩, ⟨some 9, .move (.tmp 5), y9, p9, a9, none⟩, ⟨some 10, .buildSlice tS 1 #[(0, .tmp 9)], y10, p10, a10, none⟩, ⟨some 11, .call ⟨.builtin .append, #[.tmp 8, .tmp 10], #[tS, tS]⟩, y11, p11, a11, none⟩, ⟨none, .store tS (.tmp 2) (.tmp 11), y13, p13, a13, none⟩] false), defers := w1.heap.size }
  have hs1 : St ⟨w, []⟩ G G _ ((w1.alloc (.deferred (some []))).alloc (.loop rec')) := (hs.push 8002 (.deferred (some []))).push 8001 (.loop rec')
  have hl1 : (w1.alloc (.deferred (some []))).heap.size = w1.heap.size + 1 := by simp
  rw [hl1] at hs1
  refine ⟨w1.heap.size + 1, [{ target := .collected w1.heap.size, args := #[] }], ((w1.alloc (.deferred (some []))).alloc (.loop rec')), { target := .fn (.func g) lb, args := #[.func (.yield (w1.heap.size + 1)) #[] #[]] }, ((w1.alloc (.deferred (some []))).alloc (.loop rec')), g, #[.func (.yield (w1.heap.size + 1)) #[] #[]] ++ lb, ((w1.alloc (.deferred (some []))).alloc (.loop rec')), run_enterLoop_outer _ _ _ _ _, ?_, fun _ _ => trivial, ?_, fun h => by simp [Fence.wide] at h, ?_⟩
  · have e6 := ha.here 6 (.func (.func g) #[] lb) rfl
    simp [resolve, rangeCall, Deferred.ofValue, Act.eval, e6]
  · simp [invoke, hg]
  refine (callsIn_wide (n := 0)).2 ?_
  let J : List K → World → Prop := fun xs W => ∃ G' p c tk, St ⟨w, []⟩ G G' [(8001, some ⟨w1.heap.size + 1, .loop rec', 0⟩), (8002, some ⟨w1.heap.size, .deferred (some []), 0⟩), (2, some ⟨B, .cells #[.slice p xs.length c] tS (0, 0), 0⟩), (7000, tk)] W ∧ RowR r e G' (.slice p xs.length c) xs tk
  have hrn : RowR r e G (.slice none 0 0) ([] : List K) none := RowR.nil
  refine Calls.mono (hG (w1.heap.size + 1) J _ (fun k o hk => ?_) (fun xs W1 W2 hJ hst => ?_) (fun pre x W1 hJ hok hlen => ?_) ⟨G, none, 0, none, hs1.weaken (Lo.sub_cons rfl (Lo.sub_cons rfl (Lo.sub_cons rfl (Lo.sub_no (Lo.sub_nil _))))), hrn⟩) (fun en W2 hq => ?_)
  · have hk' := (Array.getElem?_eq_some_iff.1 hk).1
    rw [hs1.block k hk' (fun _ _ h => by simp [Lo.get] at h)]; exact hk
  · obtain ⟨G', p, c, tk, h1, h2⟩ := hJ
    refine ⟨G', p, c, tk, h1.stp hst ?_ (fun i x hx => ?_), h2⟩
    · have := hs1.size; exact this
    · simp only [Lo.get_cons] at hx
      split at hx
      · cases hx; rfl
      · split at hx
        · cases hx; rfl
        · split at hx
          · cases hx; rfl
          · split at hx
            · cases tk with
              | none => cases hx
              | some y =>
                cases hx
                obtain ⟨_, _, _, _, e2, _⟩ := h2
                rw [e2]; rfl
            · simp [Lo.get] at hx
  · obtain ⟨G1, p, c, tk, h1, h2⟩ := hJ
    have hlb := (h1.loc 8001 _ rfl).1
    refine ⟨fnid, a.tmps.setIfInBounds 7 (enc x), rec'.assign, rec'.body, (by simpa [rec'] using run_yield (P := P) (args := #[enc x]) hlb rfl), ?_⟩
    let L1 : Lo := [(8001, some ⟨w1.heap.size + 1, .loop rec', 0⟩), (2, some ⟨B, .cells #[.slice p pre.length c] tS (0, 0), 0⟩), (7000, tk)]
    have hL1 : Lo.sub L1 [(8001, some ⟨w1.heap.size + 1, .loop rec', 0⟩), (8002, some ⟨w1.heap.size, .deferred (some []), 0⟩), (2, some ⟨B, .cells #[.slice p pre.length c] tS (0, 0), 0⟩), (7000, tk)] := Lo.sub_cons rfl (Lo.sub_cons rfl (Lo.sub_cons rfl (Lo.sub_nil _)))
    have hrel : Rel 13 [(2, .pointer (some ⟨B, 0, none⟩)), (7, enc x)] ⟨a.tmps.setIfInBounds 7 (enc x), []⟩ := by
      refine ⟨rfl, by simpa using ha.size, fun t v hv => ?_⟩
      rw [Fr.get_cons] at hv
      split at hv
      · rename_i ht; subst ht; cases hv
        rw [Array.getElem?_setIfInBounds_ne (by decide)]
        exact ha.here 2 _ rfl
      · rw [Fr.get_cons] at hv
        split at hv
        · rename_i ht; subst ht; cases hv
          rw [Array.getElem?_setIfInBounds_self_of_lt (by rw [ha.size]; decide)]
        · simp [Fr.get] at hv
    refine (round_of (P := P) (N := 13) (opsA := [⟨some 5, .assign (.tmp 7), y5, p5, a5, none⟩]) (opsB := [⟨some 8, .load tS (.tmp 2), y8, p8, a8, none⟩, ⟨some 9, .move (.tmp 5), y9, p9, a9, none⟩, ⟨some 10, .buildSlice tS 1 #[(0, .tmp 9)], y10, p10, a10, none⟩, ⟨some 11, .call ⟨.builtin .append, #[.tmp 8, .tmp 10], #[tS, tS]⟩, y11, p11, a11, none⟩, ⟨none, .store tS (.tmp 2) (.tmp 11), y13, p13, a13, none⟩]) (post := fun G2 L2 => Mem.le G1 G2 ∧ ∃ p' c' tk', Lo.sub [(2, some ⟨B, .cells #[.slice p' (pre ++ [x]).length c'] tS (0, 0), 0⟩), (7000, tk')] L2 ∧ RowR r e G2 (.slice p' (pre ++ [x]).length c') (pre ++ [x]) tk') rfl rfl rfl rfl ?_ ?_ hrel (h1.hp hL1) rfl ?_).mono ?_
    · intro o ho c'; simp only [List.mem_cons, List.not_mem_nil, or_false] at ho; subst ho; (intro h; cases h)
    · intro o ho c'; simp only [List.mem_cons, List.not_mem_nil, or_false] at ho; rcases ho with rfl | rfl | rfl | rfl | rfl <;> (intro h; cases h)
    · refine WL.y0' guard_none (Y0.assign rfl) rfl (WL.nil ?_)
      intro a1 v1 ha1 hs2
      refine ⟨rfl, _, _, _, ha1, hs2, rfl, ?_⟩
      refine WL.y0' guard_none (Y0.loadL 2 hS rfl rfl rfl) rfl (WL.y0' guard_none (Y0.move rfl) rfl ?_)
      refine WL.litR (e := e) (r := r) (vs := #[(0, enc x)]) (cs := [enc x]) ([x] : List K) guard_none rfl rfl rfl rfl (by decide) (fun w => hlit x w) (RepL.single (hrep _ x)) (key := 999) rfl rfl (fun q G2 hle hq => ?_)
      refine WL.appendT (r := r) (e := e) 7000 guard_none rfl hu hE hzs hby rfl rfl (h2.mono hle) rfl hq (by simp only [List.length_append, List.length_cons, List.length_nil]; omega) (fun p' c' tk' hrow => ?_)
      refine WL.storeL 2 #[.slice p' (pre ++ [x]).length c'] guard_none hSz rfl rfl rfl (by simp) rfl rfl (WL.nil ?_)
      exact fun a2 v2 _ hs3 => ⟨rfl, _, _, hs3, rfl, hle, p', c', tk', Lo.sub_cons rfl (Lo.sub_cons rfl (Lo.sub_nil _)), hrow⟩
    · rintro e' W2 ⟨e1, G2, L2, hx, hle, p', c', tk', hsub, hrow⟩
      refine ⟨e1, ⟨G2, p', c', tk', ?_, hrow⟩, ⟨hx.size, fun k o hk ho => ?_⟩⟩
      · refine h1.ext (R := [(8002, some ⟨w1.heap.size, .deferred (some []), 0⟩)]) hx hL1 (Lo.sub_cons rfl (Lo.sub_nil _)) (fun i y hy => ?_) (fun _ _ _ _ _ z hz' => by simp [Lo.get] at hz') (fun i y hy => ?_)
        · rw [Lo.get_cons] at hy
          split at hy
          · rename_i hi'; subst hi'; rfl
          · simp [Lo.get] at hy
        · rw [Lo.get_cons] at hy
          split at hy
          · rename_i hi'; subst hi'; left; rw [Lo.get_cons, if_pos rfl]; exact hy
          · rename_i hi1
            rw [Lo.get_cons] at hy
            split at hy
            · rename_i hi2; right; rw [Lo.get_cons, if_pos hi2]; exact hy
            · left; rw [Lo.get_cons, if_neg hi1]; exact hsub i y hy
      · refine (hx.block k (Array.getElem?_eq_some_iff.1 hk).1 (fun i y hy hyk => ?_)).trans hk
        have hyo := (h1.loc i y (hL1 i y hy)).1
        rw [hyk, hk] at hyo
        have hoo : y.o.isWalk = true := by cases hyo; exact ho
        simp only [L1, Lo.get_cons] at hy
        split at hy
        · cases hy; cases hoo
        · split at hy
          · cases hy; cases hoo
          · split at hy
            · cases tk with
              | none => cases hy
              | some q =>
                cases hy
                obtain ⟨_, _, _, _, e2, _⟩ := h2
                rw [e2] at hoo; cases hoo
            · simp [Lo.get] at hy
  · obtain ⟨⟨v0, rfl⟩, xs, hSx, G', p, c, tk, h1, h2⟩ := hq
    have hend := run_endLoop (P := P) (h1.loc 8001 _ rfl).1 (by simp [rec'])
    have h3 := h1.putLoop (r' := { rec' with state := .exhausted }) (key := 8001) rfl
    refine ⟨none, _, hend, ?_⟩
    refine wp_seq (wp_region_lit ?_)
    have hc := cell_of_row _ B 0 _ tS (0, 0) (h3.loc 2 _ rfl).1
    have hc' := run_loadVar_scal (P := P) hS (hc.trans rfl)
    unfold wpList
    rw [if_pos (by rfl)]
    refine .inl ?_
    have r1 : (execOp ({ a with defers := [{ target := .collected w1.heap.size, args := #[] }] ++ a.defers } : Act).eval ⟨some 12, .load tS (.tmp 2), y12, p12, a12, none⟩).run P (W2.putObj (w1.heap.size + 1) (.loop { rec' with state := .exhausted })) = .ok (.value (.slice p xs.length c)) (W2.putObj (w1.heap.size + 1) (.loop { rec' with state := .exhausted })) := by
      have e9 := ha.here 2 (.pointer (some ⟨B, 0, none⟩)) rfl
      simp [execOp, Act.eval, e9, Instr.loadAt, Instr.sureAddr, hc']
    unfold Oper.wp
    rw [r1]
    show wpList _ _ _ _ _ _
    unfold wpList
    rw [if_pos (by rfl)]
    refine .inl ?_
    have hsz : a.tmps.size = 13 := ha.size
    have r2 : (execOp ((({ a with defers := [{ target := .collected w1.heap.size, args := #[] }] ++ a.defers } : Act).put (some 12) (.slice p xs.length c))).eval ⟨some 4, .assign (.tmp 12), y14, p14, a14, none⟩).run P (W2.putObj (w1.heap.size + 1) (.loop { rec' with state := .exhausted })) = .ok (.value (.slice p xs.length c)) (W2.putObj (w1.heap.size + 1) (.loop { rec' with state := .exhausted })) := by
      simp [execOp, Act.eval, Act.put, hsz]
    unfold Oper.wp
    rw [r2]
    refine wp_ret ?_
    show LeavesInM _ _ _ _ _ _ _ _ _
    have e3 : ((({ a with defers := [{ target := .collected w1.heap.size, args := #[] }] ++ a.defers } : Act).put (some 12) (.slice p xs.length c)).put (some 4) (.slice p xs.length c)).defers = [{ target := .collected w1.heap.size, args := #[] }] := by
      simp [Act.put, ha.defers]
    rw [e3]
    refine ⟨by simp, .inl ⟨_, _, rfl, run_takeDeferred (h3.loc 8002 _ rfl).1, ?_⟩⟩
    refine ⟨.slice p xs.length c, ?_, ?_⟩
    · rw [results_tmp hr]
      simp [Act.put, hsz]
    · refine ⟨_, G', [(7000, tk)], rfl, ?_, xs, p, c, tk, rfl, rfl, h2, hSx⟩
      have hdl := (Array.getElem?_eq_some_iff.1 (h3.loc 8002 _ rfl).1).1
      have h4 := h3.upd (i := 8002) (m' := 0) (w' := World.putObj _ w1.heap.size (.deferred none)) rfl (World.putObj_heap_same hdl) (Nat.le_refl _) (fun k _ hk => absurd hk (Nat.not_lt_zero k)) (fun k hk => World.putObj_heap_other hk) rfl rfl rfl rfl (by simp)
      exact (h4.weaken (Lo.sub_cons rfl (Lo.sub_nil _))).toExt
end
end Go.EL
