/- The rule for a region that draws its order. No condition. -/
import Derived.Test.YtbdknlblnfnkkaaEld
namespace Go.EL
open Go Go.RowKit

theorem looks_eval {ops : Array Oper} {o : Oper} {a b : Act} (hs : ∀ cs q, o.op ≠ .select cs q) (h : ∀ t, t ∈ o.looksAt ops → a.tmps[t]? = b.tmps[t]?) : execOp a.eval o = execOp b.eval o := by
  refine execOp_congr o hs fun x hx => ?_
  cases x with
  | tmp t =>
    have := h t (List.mem_append_left _ (List.mem_filterMap.2 ⟨.tmp t, by simpa using hx, rfl⟩))
    simp [Act.eval, this]
  | _ => rfl
theorem looks_wanted {ops : Array Oper} {o : Oper} {a b : Act} (h : ∀ t, t ∈ o.looksAt ops → a.tmps[t]? = b.tmps[t]?) : Region.wanted o (yielded ops a.tmps) = Region.wanted o (yielded ops b.tmps) := by
  unfold Region.wanted
  cases hg : o.guard with
  | none => rfl
  | some gw =>
    obtain ⟨g, want⟩ := gw
    have hy : yielded ops a.tmps g = yielded ops b.tmps g := by
      unfold yielded
      cases ht : (ops[g]?).bind (·.dst) with
      | none => rfl
      | some t =>
        have := h t (List.mem_append_right _ (by simp [hg, ht]))
        simp [this]
    simp only [hy]

section
variable {P : Program} {N : Nat} {Q : Post} {fr : Fr} {w0 : Bs} {G0 G : Mem} {L : Lo} {l : List Oper}

theorem WC.drawn {id : Nat} (fl : List Bool) (hm : P.follows .mixedOrders = true) (hB : drawB N l fl = true) (h : Mem.le G0 G → Chain P N Q fr w0 G0 G L l.toArray fl l [] []) :
    WC P N (.region id l.toArray true) Q fr (St w0 G0 G L) := by
  intro a w ha hw
  replace h := h hw.base
  revert a w
  simp only [drawB, Bool.and_eq_true] at hB
  obtain ⟨⟨⟨⟨hE, hT⟩, hS⟩, hsel⟩, hFl⟩ := hB
  obtain ⟨T, t1, t2, t3, t5, t4⟩ := chain_tab fl l [] [] h
  generalize hn : fl.length = n at *
  have hlen : T.length = min n l.length := by have := congrArg List.length t1; simpa using this
  have hTl : ∀ (j : Nat) (q : Oper × Ent), T[j]? = some q → j < n ∧ l[j]? = some q.1 := by
    intro j q hj
    have h1 : (T.map (·.1))[j]? = some q.1 := by simp [hj]
    rw [t1, List.getElem?_take] at h1
    split at h1
    · exact ⟨by assumption, h1⟩
    · cases h1
  have hlT : ∀ (j : Nat) (o : Oper), j < n → l[j]? = some o → ∃ e, T[j]? = some (o, e) := by
    intro j o hj hl
    have hjl : j < T.length := by have := (List.getElem?_eq_some_iff.1 hl).1; omega
    refine ⟨T[j].2, ?_⟩
    rw [List.getElem?_eq_getElem hjl]
    have h1 := (hTl j T[j] (List.getElem?_eq_getElem hjl)).2
    rw [hl] at h1
    cases h1
    rfl
  have hnd : ∀ (j₁ j₂ : Nat) (q₁ q₂ : Oper × Ent) (d : Nat), T[j₁]? = some q₁ → T[j₂]? = some q₂ → q₁.1.dst = some d → q₂.1.dst = some d → j₁ = j₂ := by
    intro j₁ j₂ q₁ q₂ d h1 h2 e1 e2
    apply Classical.byContradiction
    intro hne
    obtain ⟨a1, b1⟩ := hTl j₁ q₁ h1
    obtain ⟨a2, b2⟩ := hTl j₂ q₂ h2
    exact ((drawB_slots hS a1 b1 e1).2 j₂ q₂.1 a2 b2 hne).1 e2
  have hnoSel := Region.noSelect_spec hsel
  intro a w ha hw
  have frameOf : ∀ (i : Nat) (u : Nat → Value) (t : Nat),
      ((∀ j q, j < i → T[j]? = some q → q.1.dst ≠ some t) → Fr.get (undFr (undT (T.take i) []) u ++ (detT (T.take i) [] ++ fr)) t = fr.get t) ∧
      (∀ (j : Nat) (q : Oper × Ent), j < i → T[j]? = some q → q.1.dst = some t → Fr.get (undFr (undT (T.take i) []) u ++ (detT (T.take i) [] ++ fr)) t = some (q.2.val u t)) := by
    intro i u t
    have hsub : ∀ (j : Nat) (q : Oper × Ent), (T.take i)[j]? = some q → j < i ∧ T[j]? = some q := by
      intro j q hj
      rw [List.getElem?_take] at hj
      split at hj
      · exact ⟨by assumption, hj⟩
      · cases hj
    obtain ⟨f1, f2⟩ := frame_at (fr := fr) (u := u) (T.take i) [] [] t (by simp) (fun j₁ j₂ q₁ q₂ d h1 h2 => hnd j₁ j₂ q₁ q₂ d (hsub _ _ h1).2 (hsub _ _ h2).2)
      (fun q hq φ he => (t3 q (List.mem_of_mem_take hq) φ he).1)
    refine ⟨fun hn => ?_, fun j q hj hq hd => ?_⟩
    · rw [f1 (fun q hq => by
        obtain ⟨j, hj⟩ := List.getElem?_of_mem hq
        exact hn j q (hsub j q hj).1 (hsub j q hj).2)]
      rfl
    · refine f2 q ?_ hd
      have : (T.take i)[j]? = some q := by rw [List.getElem?_take, if_pos hj]; exact hq
      exact List.mem_of_getElem? this
  let Inv : (Nat → Prop) → Act → World → Prop := fun D a w => ∃ (u : Nat → Value) (G' : Gx), Gx.le (Gx.of G) G' ∧ StX w0 G0 G' L w ∧ a.defers = [] ∧ a.tmps.size = N ∧
    (∀ (j : Nat) (q : Oper × Ent) (t : Nat), T[j]? = some q → q.1.dst = some t → (D j → a.tmps[t]? = some (q.2.val u t) ∧ ∀ φ, q.2 = .inr φ → φ (u t) G') ∧ (¬ D j → ∀ v, fr.get t = some v → a.tmps[t]? = some v)) ∧
    (∀ t, (∀ (j : Nat) (q : Oper × Ent), T[j]? = some q → q.1.dst ≠ some t) → ∀ v, fr.get t = some v → a.tmps[t]? = some v)
  -- the tail: some that float may be missing
  let Inv2 : (Nat → Prop) → Nat → Act → World → Prop := fun D m a w => ∃ (u : Nat → Value) (af : Act), wpList P l.toArray (NX Q) (l.drop m) af w ∧ a.defers = af.defers ∧ a.tmps.size = N ∧ af.tmps.size = N ∧
    (∀ t, (∀ (j : Nat) (q : Oper × Ent), T[j]? = some q → fl.getD j false = true → ¬ D j → q.1.dst ≠ some t) → a.tmps[t]? = af.tmps[t]?) ∧
    (∀ (j : Nat) (o : Oper) (c : Value) (t : Nat), T[j]? = some (o, .inl c) → fl.getD j false = true → ¬ D j → o.dst = some t → af.tmps[t]? = some c) ∧
    (∀ (j : Nat) (q : Oper × Ent), T[j]? = some q → fl.getD j false = true → ¬ D j → ∀ t, t ∈ q.1.looksAt l.toArray → ∀ v, Fr.get (undFr (undT (T.take j) []) u ++ (detT (T.take j) [] ++ fr)) t = some v → af.tmps[t]? = some v)
  have hfln : ∀ j, fl.getD j false = true → j < n := fun j hj => by
    rcases Nat.lt_or_ge j n with h | h
    · exact h
    · rw [List.getD_eq_getElem?_getD, List.getElem?_eq_none (by omega)] at hj; cases hj
  refine wp_region_inv (fl := fl) hm Inv Inv2 hE hT ?_ ?_ ?_ ?_ ?_ ?_
  · exact ⟨fun _ => undef, Gx.of G, Gx.le_refl _, StX.of hw.drew, ha.defers, ha.size, fun j q t _ _ => ⟨fun h => h.elim, fun _ v hv => ha.here t v hv⟩, fun t _ v hv => ha.here t v hv⟩
  · intro D a w i o hc _ hi ho hni hr hI
    rw [hn] at hi
    obtain ⟨u, G', hle, hst, hd, hsz, hslot, hbase⟩ := hI
    obtain ⟨e, hTi⟩ := hlT i o hi ho
    have hanc := closed_anc hc i o ho hr
    let F : Fr := undFr (undT (T.take i) []) u ++ (detT (T.take i) [] ++ fr)
    have hF : ∀ t v, F.get t = some v → t < N := by
      intro t v hv
      by_cases hex : ∃ (j : Nat) (q : Oper × Ent), j < i ∧ T[j]? = some q ∧ q.1.dst = some t
      · obtain ⟨j, q, h1, h2, h3⟩ := hex
        obtain ⟨a1, b1⟩ := hTl j q h2
        exact (drawB_slots hS a1 b1 h3).1
      · have := (frameOf i u t).1 (fun j q h1 h2 h3 => hex ⟨j, q, h1, h2, h3⟩)
        have hv' : fr.get t = some v := by rw [← this]; exact hv
        have := ha.here t v hv'
        have := (Array.getElem?_eq_some_iff.1 this).1
        have hs0 := ha.size
        omega
    have hlook : ∀ t, t ∈ o.looksAt l.toArray → (fill F a).tmps[t]? = a.tmps[t]? := by
      intro t ht
      rw [fill_at]
      cases hx : a.tmps[t]? with
      | none => rfl
      | some x =>
        simp only [Option.map_some, Option.some.injEq]
        cases hf : F.get t with
        | none => rfl
        | some v =>
          simp only [Option.getD_some]
          have key : a.tmps[t]? = some v := by
            by_cases hex : ∃ (j : Nat) (q : Oper × Ent), j < i ∧ T[j]? = some q ∧ q.1.dst = some t
            · obtain ⟨j, q, h1, h2, h3⟩ := hex
              have hv := (frameOf i u t).2 j q h1 h2 h3
              have hvv : q.2.val u t = v := by rw [hf] at hv; simpa using hv.symm
              obtain ⟨a1, b1⟩ := hTl j q h2
              have hD : D j := hanc j (((drawB_slots hS a1 b1 h3).2 i o hi ho (by omega)).2 ht |>.1 h1)
              rw [← hvv]
              exact ((hslot j q t h2 h3).1 hD).1
            · have hb := (frameOf i u t).1 (fun j q h1 h2 h3 => hex ⟨j, q, h1, h2, h3⟩)
              have hv' : fr.get t = some v := by rw [← hb]; exact hf
              by_cases hex2 : ∃ (j : Nat) (q : Oper × Ent), T[j]? = some q ∧ q.1.dst = some t
              · obtain ⟨j, q, h2, h3⟩ := hex2
                have hji : i ≤ j := by
                  rcases Nat.lt_or_ge j i with h | h
                  · exact absurd ⟨j, q, h, h2, h3⟩ hex
                  · exact h
                have hnj : ¬ D j := by
                  rcases Nat.lt_or_ge i j with h | h
                  · intro hDj
                    obtain ⟨a1, b1⟩ := hTl j q h2
                    have hij := (((drawB_slots hS a1 b1 h3).2 i o hi ho (by omega)).2 ht).2 h
                    exact hni (closed_anc hc j q.1 b1 (fun e he hb => hc j q.1 (by simpa using b1) hDj e he hb) i hij)
                  · have : i = j := by omega
                    subst this
                    exact hni
                exact (hslot j q t h2 h3).2 hnj v hv'
              · exact hbase t (fun j q h2 h3 => hex2 ⟨j, q, h2, h3⟩) v hv'
          rw [hx] at key
          simpa using key.symm
    have hrel : Rel N F (fill F a) := fill_rel hd hsz hF
    have hex : execOp (fill F a).eval o = execOp a.eval o := looks_eval (fun cs b => hnoSel i o cs b (by simpa using ho)) hlook
    have hwt : Region.wanted o (yielded l.toArray (fill F a).tmps) = Region.wanted o (yielded l.toArray a.tmps) := looks_wanted hlook
    have hul : undLook l.toArray o (undT (T.take i) []) u G' := by
      refine undLook_of fun p hp hpl => ?_
      rcases und_mem (T.take i) [] p hp with h | ⟨j, o', h1, h2⟩
      · cases h
      · rw [List.getElem?_take] at h1
        split at h1
        · rename_i hji
          obtain ⟨a1, b1⟩ := hTl j _ h1
          have hD : D j := hanc j (((drawB_slots hS a1 b1 h2).2 i o hi ho (by omega)).2 hpl |>.1 hji)
          exact ((hslot j _ p.1 h1 h2).1 hD).2 p.2 rfl
        · cases h1
    have hop := t2 i o e hTi u G' hle hul
    -- the state behind the operation
    have behind : ∀ v w' G'', Gx.le G' G'' → StX w0 G0 G'' L w' → e.post v G'' → Inv (fun j => D j ∨ j = i) (a.put o.dst v) w' := by
      intro v w' G'' hle' hst' hpost
      let u' : Nat → Value := fun t => if o.dst = some t then v else u t
      refine ⟨u', G'', Gx.le_trans hle hle', hst', by cases o.dst <;> exact hd, by cases o.dst <;> simpa [Act.put] using hsz, fun j q t hj hdt => ?_, fun t hn x hx => ?_⟩
      · by_cases hji : j = i
        · subst hji
          rw [hTi] at hj
          cases hj
          simp only at hdt
          refine ⟨fun _ => ?_, fun h => absurd (Or.inr rfl) h⟩
          have htN := (drawB_slots hS hi ho hdt).1
          refine ⟨?_, fun φ he => ?_⟩
          · rw [hdt]
            simp only [Act.put]
            rw [Array.getElem?_setIfInBounds_self_of_lt (by omega)]
            cases e with
            | inl c => simp only [Ent.post] at hpost; simp [Ent.val, hpost]
            | inr φ => simp [Ent.val, u', hdt]
          · simp only at he
            subst he
            simp only [u', hdt, if_true]
            exact hpost
        · have hne : o.dst ≠ some t := fun he => hji (hnd j i q (o, e) t hj hTi hdt he)
          have hput : (a.put o.dst v).tmps[t]? = a.tmps[t]? := by
            cases ho' : o.dst with
            | none => rfl
            | some s =>
              simp only [Act.put]
              rw [Array.getElem?_setIfInBounds_ne (fun e => hne (by rw [ho', e]))]
          have hu' : u' t = u t := by simp only [u']; rw [if_neg hne]
          have hval : q.2.val u' t = q.2.val u t := by
            cases q.2 with
            | inl c => rfl
            | inr φ => simp only [Ent.val]; exact hu'
          rw [hput, hval]
          refine ⟨fun hD => ?_, fun hD => (hslot j q t hj hdt).2 (fun h => hD (.inl h))⟩
          have hDj : D j := hD.resolve_right hji
          have := (hslot j q t hj hdt).1 hDj
          refine ⟨this.1, fun φ he => ?_⟩
          rw [hu']
          exact (t3 q (List.mem_of_getElem? hj) φ he).2 _ _ _ hle' (this.2 φ he)
      · have hne : o.dst ≠ some t := hn i (o, e) hTi
        have hput : (a.put o.dst v).tmps[t]? = a.tmps[t]? := by
          cases ho' : o.dst with
          | none => rfl
          | some s =>
            simp only [Act.put]
            rw [Array.getElem?_setIfInBounds_ne (fun e => hne (by rw [ho', e]))]
        rw [hput]
        exact hbase t hn x hx
    unfold wpOp
    have hoa : l.toArray[i]? = some o := by simpa using ho
    simp only [hoa]
    rcases hop with ⟨hg, hpost⟩ | ⟨hg, hyr⟩
    · rw [if_neg (by rw [← hwt, hrel.wanted hg]; simp)]
      exact behind undef w G' (Gx.le_refl _) hst hpost
    · rw [if_pos (by rw [← hwt, hrel.wanted hg])]
      have hres := hyr (fill F a) w hrel hst
      rw [hex] at hres
      exact .inl (hres.wp fun v w' ⟨G'', h1, h2, h3⟩ => behind v w' G'' h1 h2 h3)
  · -- the turn
    intro D a w hcl hall _ hI
    obtain ⟨u, G', hle, hst, hd, hsz, hslot, hbase⟩ := hI
    have hTT : T.take T.length = T := List.take_length
    let F : Fr := undFr (undT T []) u ++ (detT T [] ++ fr)
    have hfr : ∀ t, ((∀ (j : Nat) (q : Oper × Ent), T[j]? = some q → q.1.dst ≠ some t) → F.get t = fr.get t) ∧ (∀ (j : Nat) (q : Oper × Ent), T[j]? = some q → q.1.dst = some t → F.get t = some (q.2.val u t)) := by
      intro t
      have h0 := frameOf T.length u t
      rw [hTT] at h0
      exact ⟨fun h => h0.1 (fun j q _ hj => h j q hj), fun j q hj hd => h0.2 j q (List.getElem?_eq_some_iff.1 hj).1 hj hd⟩
    have hDj : ∀ (j : Nat) (q : Oper × Ent), T[j]? = some q → ¬ fl.getD j false = true → D j := fun j q hj hf => by
      obtain ⟨a1, b1⟩ := hTl j q hj
      exact hall j (by omega) (List.getElem?_eq_some_iff.1 b1).1 (by simpa using hf)
    have hF : ∀ t v, F.get t = some v → t < N := by
      intro t v hv
      by_cases hex : ∃ (j : Nat) (q : Oper × Ent), T[j]? = some q ∧ q.1.dst = some t
      · obtain ⟨j, q, h2, h3⟩ := hex
        obtain ⟨a1, b1⟩ := hTl j q h2
        exact (drawB_slots hS a1 b1 h3).1
      · rw [(hfr t).1 (fun j q h2 h3 => hex ⟨j, q, h2, h3⟩)] at hv
        have := ha.here t v hv
        have := (Array.getElem?_eq_some_iff.1 this).1
        have hs0 := ha.size
        omega
    have hund : undAll (undT T []) u G' := undAll_of fun p hp => by
      rcases und_mem T [] p hp with h | ⟨j, o', h1, h2⟩
      · cases h
      · refine ((hslot j _ p.1 h1 h2).1 (hDj j _ h1 (fun hf => ?_))).2 p.2 rfl
        obtain ⟨c, hc, _⟩ := t5 j o' _ h1 hf
        cases hc
    refine ⟨u, fill F a, ?_, rfl, hsz, by simp [fill, hsz], fun t ht => ?_, fun j o c t hj hf hnD hdt => ?_, fun j q hj hf hnD t ht v hv => ?_⟩
    · have := t4 u G' hle hund (fill F a) w (fill_rel hd hsz hF) hst
      rw [hn]
      exact this
    · rw [fill_at]
      cases hx : a.tmps[t]? with
      | none => rfl
      | some x =>
        simp only [Option.map_some, Option.some.injEq]
        cases hf : F.get t with
        | none => rfl
        | some v =>
          simp only [Option.getD_some]
          have key : a.tmps[t]? = some v := by
            by_cases hex : ∃ (j : Nat) (q : Oper × Ent), T[j]? = some q ∧ q.1.dst = some t
            · obtain ⟨j, q, h2, h3⟩ := hex
              have hv := (hfr t).2 j q h2 h3
              rw [hf] at hv
              simp only [Option.some.injEq] at hv
              rw [hv]
              have hD : D j := by
                apply Classical.byContradiction
                intro hnD
                by_cases hfj : fl.getD j false = true
                · exact ht j q h2 hfj hnD h3
                · exact hnD (hDj j q h2 hfj)
              exact ((hslot j q t h2 h3).1 hD).1
            · have hb := (hfr t).1 (fun j q h2 h3 => hex ⟨j, q, h2, h3⟩)
              exact hbase t (fun j q h2 h3 => hex ⟨j, q, h2, h3⟩) v (by rw [← hb]; exact hf)
          rw [hx] at key
          simpa using key
    · rw [fill_at]
      have htN := (drawB_slots hS (hTl j _ hj).1 (hTl j _ hj).2 hdt).1
      rw [Array.getElem?_eq_getElem (show t < a.tmps.size by rw [hsz]; exact htN)]
      have hv := (hfr t).2 j _ hj hdt
      simp only [Option.map_some, hv, Option.getD_some]
      rfl
    · rw [fill_at]
      have hFt : F.get t = some v := by
        by_cases hex : ∃ (i : Nat) (q' : Oper × Ent), i < j ∧ T[i]? = some q' ∧ q'.1.dst = some t
        · obtain ⟨i, q', h1, h2, h3⟩ := hex
          rw [(frameOf j u t).2 i q' h1 h2 h3] at hv
          rw [(hfr t).2 i q' h2 h3]
          exact hv
        · rw [(frameOf j u t).1 (fun i q' h1 h2 h3 => hex ⟨i, q', h1, h2, h3⟩)] at hv
          rw [(hfr t).1 (fun i q' h2 h3 => ?_)]
          · exact hv
          · obtain ⟨a1, b1⟩ := hTl i q' h2
            obtain ⟨a2, b2⟩ := hTl j q hj
            have hij : j ≤ i := by
              rcases Nat.lt_or_ge i j with h | h
              · exact absurd ⟨i, q', h, h2, h3⟩ hex
              · exact h
            by_cases hfi : fl.getD i false = true
            · exact (floatB_spec hFl (by omega) hfi b1 b2).2 hij hf t h3 ht
            · rcases Nat.lt_or_ge j i with h | h
              · have hDi := hDj i q' h2 hfi
                have hanc := (((drawB_slots hS a1 b1 h3).2 j q.1 a2 b2 (by omega)).2 ht).2 h
                exact hnD (closed_anc hcl i q'.1 b1 (fun e he hb => hcl i q'.1 (by simpa using b1) hDi e he hb) j hanc)
              · have : i = j := by omega
                subst this
                exact hfi hf
      have htN : t < a.tmps.size := by rw [hsz]; exact hF t v hFt
      rw [Array.getElem?_eq_getElem htN]
      simp [hFt]
  · -- the tail
    intro D a w m o hcl hm' ho hmD hr hI
    obtain ⟨u, af, hwp, hdf, hsz, hszf, heq, hmiss, hlook⟩ := hI
    rw [hn] at hm'
    have hml : m < l.length := (List.getElem?_eq_some_iff.1 ho).1
    have hom : l[m] = o := by rw [List.getElem?_eq_getElem hml] at ho; simpa using ho
    have hanc := closed_anc hcl m o ho hr
    have hag : ∀ t, t ∈ o.looksAt l.toArray → af.tmps[t]? = a.tmps[t]? := fun t ht => (heq t (fun j q hj hf hnD hdt => by
      obtain ⟨a1, b1⟩ := hTl j q hj
      exact hnD (hanc j (((floatB_spec hFl (by omega) hf b1 ho).1 (by omega)).2 t hdt ht)))).symm
    have hex : execOp af.eval o = execOp a.eval o := looks_eval (fun cs b => hnoSel m o cs b (by simpa using ho)) hag
    have hwt : Region.wanted o (yielded l.toArray af.tmps) = Region.wanted o (yielded l.toArray a.tmps) := looks_wanted hag
    rw [List.drop_eq_getElem_cons hml, hom] at hwp
    unfold wpList at hwp
    -- behind the operation
    have behind : ∀ v w' ds, wpList P l.toArray (NX Q) (l.drop (m + 1)) (({ af with defers := ds } : Act).put o.dst v) w' → Inv2 (fun j => D j ∨ j = m) (m + 1) (({ a with defers := ds } : Act).put o.dst v) w' := by
      intro v w' ds hw'
      have hput : ∀ (x : Act) t, o.dst ≠ some t → (x.put o.dst v).tmps[t]? = x.tmps[t]? := fun x t hne => by
        cases ho' : o.dst with
        | none => rfl
        | some s =>
          simp only [Act.put]
          rw [Array.getElem?_setIfInBounds_ne (fun e => hne (by rw [ho', e]))]
      refine ⟨u, _, hw', by cases o.dst <;> rfl, by cases o.dst <;> simpa [Act.put] using hsz, by cases o.dst <;> simpa [Act.put] using hszf, fun t ht => ?_, fun j o' c t hj hf hnD hdt => ?_, fun j q hj hf hnD t ht v' hv' => ?_⟩
      · by_cases hdt : o.dst = some t
        · rw [hdt]
          simp only [Act.put, Array.getElem?_setIfInBounds, hsz, hszf, if_true]
        · rw [hput _ t hdt, hput _ t hdt]
          exact heq t (fun j q hj hf hnD hd => by
            have := (hTl j q hj).1
            exact ht j q hj hf (fun h => h.elim hnD (fun e => by omega)) hd)
      · obtain ⟨a1, b1⟩ := hTl j _ hj
        have hne : o.dst ≠ some t := fun e => (((floatB_spec hFl (by omega) hf b1 ho).1 (by omega)).1 t (fun hj' => hnD (.inl (hanc j hj'))) e).2 hdt
        rw [hput _ t hne]
        exact hmiss j o' c t hj hf (fun h => hnD (.inl h)) hdt
      · obtain ⟨a1, b1⟩ := hTl j _ hj
        have hne : o.dst ≠ some t := fun e => (((floatB_spec hFl (by omega) hf b1 ho).1 (by omega)).1 t (fun hj' => hnD (.inl (hanc j hj'))) e).1 ht
        rw [hput _ t hne]
        exact hlook j q hj hf (fun h => hnD (.inl h)) t ht v' hv'
    have haf : ({ af with defers := a.defers } : Act) = af := by rw [hdf]
    have plain : ∀ v w', wpList P l.toArray (NX Q) (l.drop (m + 1)) (af.put o.dst v) w' → Inv2 (fun j => D j ∨ j = m) (m + 1) (a.put o.dst v) w' := fun v w' h => behind v w' a.defers (by rw [haf]; exact h)
    unfold wpOp
    have hoa : l.toArray[m]? = some o := by simpa using ho
    simp only [hoa]
    by_cases hw' : Region.wanted o (yielded l.toArray a.tmps) = true
    · rw [if_pos hw']
      rw [if_pos (by rw [hwt]; exact hw')] at hwp
      refine .inl ?_
      rcases hwp with hwp | ⟨_, a₀, w₀, hq⟩
      · unfold Oper.wp at hwp ⊢
        rw [hex] at hwp
        generalize (execOp a.eval o).run P w = r at hwp ⊢
        cases r with
        | ok x w' =>
          cases x <;> simp only [Oper.upon] at hwp ⊢
          case value v => exact plain v w' hwp
          case skip => exact plain undef w' hwp
          case defer d => exact behind undef w' (d :: a.defers) (by rw [hdf]; exact hwp)
          case enter f args =>
            refine Calls.mono hwp fun e w'' he => ?_
            cases e with
            | returned v => exact plain v w'' he
            | panicked c => exact he.elim
            | outgrown => obtain ⟨_, _, h⟩ := he; exact h.elim
          case row row args => exact Rows.mono hwp fun v w'' he => plain v w'' he
        | halt x w' => cases x <;> simp only [Oper.upon] at hwp ⊢; exact hwp.elim
      · exact hq.elim
    · rw [if_neg hw']
      rw [if_neg (by rw [hwt]; exact hw')] at hwp
      exact plain undef w hwp
  · -- one that floats
    intro D a w m i o hcl hi hm' hf ho hni hr hI
    obtain ⟨u, af, hwp, hdf, hsz, hszf, heq, hmiss, hlook⟩ := hI
    rw [hn] at hi hm'
    obtain ⟨e, hTi⟩ := hlT i o hi ho
    obtain ⟨c, rfl, hY⟩ := t5 i o e hTi hf
    have hanc := closed_anc hcl i o ho hr
    let F : Fr := undFr (undT (T.take i) []) u ++ (detT (T.take i) [] ++ fr)
    have hF : ∀ t v, F.get t = some v → t < N := by
      intro t v hv
      by_cases hex : ∃ (j : Nat) (q : Oper × Ent), j < i ∧ T[j]? = some q ∧ q.1.dst = some t
      · obtain ⟨j, q, h1, h2, h3⟩ := hex
        obtain ⟨a1, b1⟩ := hTl j q h2
        exact (drawB_slots hS a1 b1 h3).1
      · have := (frameOf i u t).1 (fun j q h1 h2 h3 => hex ⟨j, q, h1, h2, h3⟩)
        have hv' : fr.get t = some v := by rw [← this]; exact hv
        have := ha.here t v hv'
        have := (Array.getElem?_eq_some_iff.1 this).1
        have hs0 := ha.size
        omega
    have hag : ∀ t, t ∈ o.looksAt l.toArray → af.tmps[t]? = a.tmps[t]? := fun t ht => (heq t (fun j q hj hfj hnD hdt => by
      obtain ⟨a1, b1⟩ := hTl j q hj
      rcases Nat.lt_trichotomy j i with h | h | h
      · exact hnD (hanc j ((((drawB_slots hS a1 b1 hdt).2 i o hi ho (by omega)).2 ht).1 h))
      · subst h
        rw [hTi] at hj
        cases hj
        exact (floatB_spec hFl (by omega) hf ho ho).2 (Nat.le_refl _) hf t hdt ht
      · exact (floatB_spec hFl (by omega) hfj b1 ho).2 (by omega) hf t hdt ht)).symm
    have hfill : ∀ t, t ∈ o.looksAt l.toArray → (fill F a).tmps[t]? = a.tmps[t]? := by
      intro t ht
      rw [fill_at]
      cases hx : a.tmps[t]? with
      | none => rfl
      | some x =>
        simp only [Option.map_some, Option.some.injEq]
        cases hfg : F.get t with
        | none => rfl
        | some v =>
          have h1 := hlook i (o, .inl c) hTi hf hni t ht v hfg
          rw [hag t ht, hx] at h1
          simpa using h1.symm
    have hrel : Rel N F (fill F { a with defers := [] }) := fill_rel rfl hsz hF
    have hex : execOp (fill F { a with defers := [] }).eval o = execOp a.eval o := looks_eval (ops := l.toArray) (fun cs b => hnoSel i o cs b (by simpa using ho)) hfill
    have hwt : Region.wanted o (yielded l.toArray (fill F { a with defers := [] }).tmps) = Region.wanted o (yielded l.toArray a.tmps) := looks_wanted (a := fill F { a with defers := [] }) hfill
    unfold wpOp
    have hoa : l.toArray[i]? = some o := by simpa using ho
    simp only [hoa]
    rw [if_pos (by rw [← hwt, hrel.wanted (hY u).1])]
    refine .inl ?_
    have hrun := (hY u).2 (fill F { a with defers := [] }) w hrel trivial
    rw [hex] at hrun
    simp only [Oper.wp, hrun, Oper.upon]
    refine ⟨u, af, hwp, by cases o.dst <;> exact hdf, by cases o.dst <;> simpa [Act.put] using hsz, hszf, fun t ht => ?_, fun j o' c' t hj hfj hnD hdt => ?_, fun j q hj hfj hnD t ht v' hv' => ?_⟩
    · by_cases hdt : o.dst = some t
      · have htN := (drawB_slots hS hi ho hdt).1
        rw [hdt]
        simp only [Act.put]
        rw [Array.getElem?_setIfInBounds_self_of_lt (by omega)]
        exact (hmiss i o c t hTi hf hni hdt).symm
      · have hput : (a.put o.dst c).tmps[t]? = a.tmps[t]? := by
          cases ho' : o.dst with
          | none => rfl
          | some s =>
            simp only [Act.put]
            rw [Array.getElem?_setIfInBounds_ne (fun e => hdt (by rw [ho', e]))]
        rw [hput]
        refine heq t (fun j q hj hfj hnD hd => ?_)
        by_cases hji : j = i
        · subst hji
          rw [hTi] at hj
          cases hj
          exact hdt hd
        · exact ht j q hj hfj (fun h => h.elim hnD hji) hd
    · exact hmiss j o' c' t hj hfj (fun h => hnD (.inl h)) hdt
    · exact hlook j q hj hfj (fun h => hnD (.inl h)) t ht v' hv'
  · -- the end
    intro D a w m hall hml hI
    obtain ⟨u, af, hwp, hdf, hsz, hszf, heq, _, _⟩ := hI
    rw [List.drop_eq_nil_of_le hml] at hwp
    have hta : a.tmps = af.tmps := by
      apply Array.ext_getElem?
      intro t
      exact heq t (fun j q hj _ hnD => absurd (hall j (List.getElem?_eq_some_iff.1 (hTl j q hj).2).1) hnD)
    have : a = af := by cases a; cases af; simp_all
    rw [this]
    exact hwp
end
end Go.EL
