/- The law on minimal monomials, as a contract: it returns true. The conditions stand in each statement. -/
import Derived.Test.YtdpmpefjplfgbaaMg
import Derived.Test.YtdpmpefjplfgbaaElp
namespace Go.Proofs.Ytdpmpefjplfgbaa
open Go Go.EL Go.RowKit
theorem backL_step {l : List M} {k z : Nat} (h : z < l.length) (h0 : 0 < l.length) (hz : z = l.length - 1 - k) : backL l (k + 1) = backL l k ++ [l[z], l[0]] := by
  subst hz
  simp only [backL, List.getD_eq_getElem?_getD, List.getElem?_eq_getElem h, List.getElem?_eq_getElem h0, Option.getD_some]

theorem cMonomialMinimal (v : Value) (x : List M) (hmade : ∀ m ∈ x, Ok m) (y : M) (hy : Ok y) : Ctr Try.prog 9 #[v, .agg (vecU y)] (fun G => SlU G v x) (fun G r => r = .bool true) := by
  refine Ctr.enter (args := [_, _]) (N := 140) Try.func9 rfl rfl rfl (fun w0 G0 hL0 hpre => ?_)
  refine WC.seq ?_
  refine WC.region ?_
  refine WL.box 3 guard_none rfl rfl (fun b3 => ?_)
  refine WL.y0' guard_none (Y0.assign rfl) rfl ?_
  refine WL.nil ?_
  refine WE.then ?_
  refine WC.seq ?_
  refine WC.region ?_
  refine WL.call0 guard_none rfl (YC.of E11 rfl) (lsanity) rfl (trivial) ?_
  refine WL.y0' guard_none (Y0.assign rfl) rfl ?_
  refine WL.nil ?_
  refine WE.then ?_
  refine WC.seq ?_
  refine WC.seq ?_
  refine WC.region ?_
  refine WL.y0' guard_none (Y0.move rfl) rfl ?_
  refine WL.y0' guard_none (Y0.not rfl) rfl ?_
  refine WL.nil ?_
  refine WE.then ?_
  refine WC.condF rfl ?_
  refine WC.skip ?_
  refine WE.then ?_
  refine WC.seq ?_
  refine WC.region ?_
  refine WL.y0' guard_none (Y0.move rfl) rfl ?_
  refine WL.call guard_none rfl (YC.of E32 rfl) (rList _ x 12 (by omega) hmade) rfl (hpre) (fun v19 G19 hle19 hp19 => ?_)
  obtain ⟨l, hl⟩ : ∃ l, l = x.take 12 := ⟨_, rfl⟩
  rw [← hl] at hp19
  have hlen : l.length ≤ 12 := by rw [hl]; simp; omega
  refine WL.y0' guard_none (Y0.assign rfl) rfl ?_
  refine WL.nil ?_
  refine WE.then ?_
  refine WC.seq ?_
  refine WC.region ?_
  refine WL.y0' guard_none (Y0.loadLA 3 ag24 rfl rfl rfl) rfl ?_
  refine WL.call0 guard_none rfl (YC.of E12 rfl) (rMade _ (by assumption)) rfl (trivial) ?_
  refine WL.alloc 7 guard_none z27 rfl (fun b7 => ?_)
  refine WL.storeLA 7 guard_none sz27 rfl rfl rfl rfl rfl rfl ?_
  refine WL.nil ?_
  refine WE.then ?_
  refine WC.seq ?_
  refine WC.region ?_
  refine WL.y0' guard_none (Y0.move rfl) rfl ?_
  refine WL.call guard_none rfl (YC.of E33 rfl) (mMinimal _ l (by omega)) rfl (hp19) (fun v23 G23 hle23 hp23 => ?_)
  have hsl := hp19.mono hle23
  have hsm := hp23
  have hsl0 := hsl
  have hsm0 := hsm
  obtain ⟨p, cap, bb, off, rfl, hmax, hp1, hp2, hcell⟩ := hsl0
  obtain ⟨q, capq, bq, oq, rfl, hmaxq, hq1, hq2, hcellq⟩ := hsm0
  have hml := minimalM_length l
  have hm0 := minimalM_nil l
  refine WL.y0' guard_none (Y0.assign rfl) rfl ?_
  refine WL.nil ?_
  refine WE.then ?_
  refine WC.seq ?_
  refine WC.seq ?_
  refine WC.drawn [false, false, false, false, false, false, false, false, false, false, false, false, false, false, false, false, false, false, false, false, false, false, false] mix (by kernel_rfl) (fun hb => ?_)
  refine Chain.y0 guard_none (fun _ hle => Y0.move rfl) ?_
  refine Chain.y0 guard_none (fun _ hle => Y0.lenSl Try.underlying42 rfl) ?_
  refine Chain.y0 guard_none (fun _ hle => Y0.move rfl) ?_
  refine Chain.y0 guard_none (fun _ hle => Y0.lenSl Try.underlying42 rfl) ?_
  refine Chain.y0 guard_none (fun _ hle => Y0.eq (Y0.gtr rfl rfl) (congrArg Value.bool (decide_eq_false (by omega)))) ?_
  refine Chain.y0 guard_none (fun _ hle => Y0.move rfl) ?_
  refine Chain.y0 (guard_yes rfl rfl) (fun _ hle => Y0.move rfl) ?_
  refine Chain.y0 (guard_yes rfl rfl) (fun _ hle => Y0.lenSl Try.underlying42 rfl) ?_
  refine Chain.y0 (guard_yes rfl rfl) (fun _ hle => Y0.eql rfl rfl) ?_
  refine Chain.y0 (guard_yes rfl rfl) (fun _ hle => Y0.move rfl) ?_
  refine Chain.y0 (guard_yes rfl rfl) (fun _ hle => Y0.lenSl Try.underlying42 rfl) ?_
  refine Chain.y0 (guard_yes rfl rfl) (fun _ hle => Y0.eql rfl rfl) ?_
  refine Chain.y0 (guard_yes rfl rfl) (fun _ hle => Y0.eq (Y0.neqB Try.underlying4 rfl rfl) (congrArg Value.bool (decide_eq_false (fun h => h (decide_eq_decide.2 (by omega)))))) ?_
  refine Chain.y0 guard_none (fun _ hle => Y0.pickF rfl rfl) ?_
  refine Chain.y0 guard_none (fun _ hle => Y0.move rfl) ?_
  refine Chain.y0 (guard_yes rfl rfl) (fun _ hle => Y0.loadLA 7 ag27 rfl rfl rfl) ?_
  refine Chain.y0 (guard_yes rfl rfl) (fun _ hle => Y0.move rfl) ?_
  refine Chain.call0 (guard_yes rfl rfl) (fun _ => YC.of E34 rfl) (mIn y _ l) rfl (fun G' hle => hsl.mono hle) ?_
  refine Chain.y0 (guard_yes rfl rfl) (fun _ hle => Y0.loadLA 7 ag27 rfl rfl rfl) ?_
  refine Chain.y0 (guard_yes rfl rfl) (fun _ hle => Y0.move rfl) ?_
  refine Chain.call0 (guard_yes rfl rfl) (fun _ => YC.of E34 rfl) (mIn y _ (minimalM l)) rfl (fun G' hle => hsm.mono hle) ?_
  refine Chain.y0 (guard_yes rfl rfl) (fun _ hle => Y0.eq (Y0.neqB Try.underlying4 rfl rfl) (congrArg Value.bool (decide_eq_false (fun h => h (inM_minimal _ _))))) ?_
  refine Chain.y0 guard_none (fun _ hle => Y0.pickF rfl rfl) ?_
  refine Chain.tail0 hb ?_
  refine WL.nil ?_
  refine WE.nx ?_
  refine WE.then ?_
  refine WC.condF rfl ?_
  refine WC.skip ?_
  refine WE.then ?_
  refine WC.seq ?_
  refine WC.seq ?_
  refine WC.region ?_
  refine WL.y0' guard_none (Y0.assign rfl) rfl ?_
  refine WL.nil ?_
  refine WE.then ?_
  refine WC.block ?_
  refine WC.loopH (fun (x : Nat) => [(5, .bool true), (6, .slice p l.length cap), (8, .slice q (minimalM l).length capq), (9, .int .i64 (x : Int))]) (fun (x : Nat) => x ≤ (minimalM l).length) (fun (x : Nat) => St w0 G0 G23 []) (fun (x : Nat) => (minimalM l).length - x) 0 ?_ ?_ ?_ ?_
  · exact Fr.sub_cons rfl (Fr.sub_cons rfl (Fr.sub_cons rfl (Fr.sub_cons rfl (Fr.sub_nil _))))
  · omega
  · exact St.conseqL (Lo.sub_nil _)
  rintro x hx
  have hxl := hx
  refine WC.seq ?_
  refine WC.seq ?_
  refine WC.region ?_
  refine WL.y0' guard_none (Y0.move rfl) rfl ?_
  refine WL.y0' guard_none (Y0.move rfl) rfl ?_
  refine WL.y0' guard_none (Y0.lenSl Try.underlying42 rfl) rfl ?_
  refine WL.caseY0 guard_none (Y0.lss rfl rfl) rfl (fun h50 => ?_) (fun h50 => ?_)
  · skip
    have hn : x < (minimalM l).length := by omega
    have hq := hq2 (by omega)
    subst hq
    refine WL.nil ?_
    refine WE.then ?_
    refine WC.condT rfl ?_
    refine WC.skip ?_
    refine WE.then ?_
    refine WC.seq ?_
    refine WC.block ?_
    refine WC.seq ?_
    refine WC.seq ?_
    refine WC.drawn [false, false, false, false, false, false, false, false, false, false, false, false, false, false, false] mix (by kernel_rfl) (fun hb => ?_)
    refine Chain.y0 guard_none (fun _ hle => Y0.move rfl) ?_
    refine Chain.caseY0 guard_none (fun _ hle => Y0.gtr rfl rfl) (fun h54 => ?_) (fun h54 => ?_)
    · skip
      refine Chain.y0 guard_none (fun _ hle => Y0.move rfl) ?_
      refine Chain.y0 (guard_yes rfl rfl) (fun _ hle => Y0.move rfl) ?_
      refine Chain.y0 (guard_yes rfl rfl) (fun _ hle => Y0.move rfl) ?_
      refine Chain.y0 (guard_yes rfl rfl) (fun _ hle => Y0.eq (Y0.subI rfl rfl (by omega)) (congrArg (Value.int .i64) (show (x : Int) - 1 = ((x - 1 : Nat) : Int) by omega))) ?_
      first | refine Chain.y0 (guard_yes rfl rfl) (fun _ hle => Y0.idxSlN Try.underlying42 sz27 rfl rfl (by omega)) ?_ | refine Chain.y0 (guard_yes rfl rfl) (fun _ hle => Y0.idxSl Try.underlying42 sz27 rfl rfl (by omega)) ?_
      refine Chain.y0 (guard_yes rfl rfl) (fun _ hle => Y0.loadGA _ ag27 rfl rfl (fun j v hv => hle _ _ _ (SlM.cells hcellq (show x - 1 < (minimalM l).length by omega) j v hv))) ?_
      refine Chain.y0 (guard_yes rfl rfl) (fun _ hle => Y0.move rfl) ?_
      refine Chain.y0 (guard_yes rfl rfl) (fun _ hle => Y0.move rfl) ?_
      first | refine Chain.y0 (guard_yes rfl rfl) (fun _ hle => Y0.idxSlN Try.underlying42 sz27 rfl rfl (by omega)) ?_ | refine Chain.y0 (guard_yes rfl rfl) (fun _ hle => Y0.idxSl Try.underlying42 sz27 rfl rfl (by omega)) ?_
      refine Chain.y0 (guard_yes rfl rfl) (fun _ hle => Y0.loadGA _ ag27 rfl rfl (fun j v hv => hle _ _ _ (SlM.cells hcellq hn j v hv))) ?_
      refine Chain.call0 (guard_yes rfl rfl) (fun _ => YC.of E20 rfl) (rCmp _ _) rfl (fun G' hle => trivial) ?_
      refine Chain.y0 (guard_yes rfl rfl) (fun _ hle => Y0.eq (Y0.leq rfl rfl) (congrArg Value.bool (decide_eq_false (by have h1 := minimalM_dec (l := l) (i := x - 1) (j := x) (by omega) hn (by omega); have h2 := cmpM_neg (minimalM l)[x] ((minimalM l)[x - 1]'(by omega)); omega)))) ?_
      refine Chain.y0 guard_none (fun _ hle => Y0.pickT rfl rfl) ?_
      refine Chain.tail0 hb ?_
      refine WL.nil ?_
      refine WE.nx ?_
      refine WE.then ?_
      refine WC.condF rfl ?_
      refine WC.skip ?_
      refine WE.then ?_
      refine WC.seq ?_
      refine WC.region ?_
      refine WL.y0' guard_none (Y0.assign rfl) rfl ?_
      refine WL.nil ?_
      refine WE.then ?_
      refine WC.seq ?_
      refine WC.seq ?_
      refine WC.region ?_
      refine WL.y0' guard_none (Y0.assign rfl) rfl ?_
      refine WL.nil ?_
      refine WE.then ?_
      refine WC.block ?_
      refine WC.loopH (fun (gst : Nat × Bool) => match gst with | ⟨k, bg⟩ => [(5, .bool true), (6, .slice p l.length cap), (8, .slice (some ⟨bq, oq, none⟩) (minimalM l).length capq), (9, .int .i64 (x : Int)), (10, .bool bg), (11, .int .i64 (k : Int))]) (fun (gst : Nat × Bool) => match gst with | ⟨k, bg⟩ => k ≤ l.length ∧ (bg = true ↔ (False ∨ ∃ (i : Nat) (h : i < l.length), i < k ∧ l[i] = (minimalM l)[x]))) (fun (gst : Nat × Bool) => match gst with | ⟨k, bg⟩ => St w0 G0 G23 []) (fun (gst : Nat × Bool) => match gst with | ⟨k, bg⟩ => l.length - k) ⟨0, false⟩ ?_ ?_ ?_ ?_
      · exact Fr.sub_cons rfl (Fr.sub_cons rfl (Fr.sub_cons rfl (Fr.sub_cons rfl (Fr.sub_cons rfl (Fr.sub_cons rfl (Fr.sub_nil _))))))
      · exact ⟨by omega, by simp⟩
      · intro w hs; exact hs
      rintro ⟨k, bg⟩ hx0
      obtain ⟨hkl, hbg⟩ := hx0
      refine WC.seq ?_
      refine WC.seq ?_
      refine WC.region ?_
      refine WL.y0' guard_none (Y0.move rfl) rfl ?_
      refine WL.y0' guard_none (Y0.move rfl) rfl ?_
      refine WL.y0' guard_none (Y0.lenSl Try.underlying42 rfl) rfl ?_
      refine WL.caseY0 guard_none (Y0.lss rfl rfl) rfl (fun h71 => ?_) (fun h71 => ?_)
      · skip
        have hk : k < l.length := by omega
        have hp := hp2 (by omega)
        subst hp
        refine WL.nil ?_
        refine WE.then ?_
        refine WC.condT rfl ?_
        refine WC.skip ?_
        refine WE.then ?_
        refine WC.seq ?_
        refine WC.block ?_
        refine WC.drawn [false, false, false, false, false, false, false, false, false, false, false, false, false] mix (by kernel_rfl) (fun hb => ?_)
        refine Chain.y0 guard_none (fun _ hle => Y0.move rfl) ?_
        refine Chain.caseY0 guard_none (fun _ hle => Y0.eq (Y0.move rfl) (congrArg Value.bool (bdec _))) (fun h75 => ?_) (fun h75 => ?_)
        · skip
          refine Chain.skip (guard_noF rfl rfl) ?_
          refine Chain.skip (guard_noF rfl rfl) ?_
          refine Chain.skip (guard_noF rfl rfl) ?_
          refine Chain.skip (guard_noF rfl rfl) ?_
          refine Chain.skip (guard_noF rfl rfl) ?_
          refine Chain.skip (guard_noF rfl rfl) ?_
          refine Chain.skip (guard_noF rfl rfl) ?_
          refine Chain.skip (guard_noF rfl rfl) ?_
          refine Chain.skip (guard_noF rfl rfl) ?_
          refine Chain.y0 guard_none (fun _ hle => Y0.pickT rfl rfl) ?_
          refine Chain.y0 guard_none (fun _ hle => Y0.assign rfl) ?_
          refine Chain.tail0 hb ?_
          refine WL.nil ?_
          refine WE.nx ?_
          refine WE.inBlock ?_
          refine WE.then ?_
          refine WC.region ?_
          refine WL.y0' guard_none (Y0.move rfl) rfl ?_
          first | refine WL.y0' guard_none (Y0.addI rfl rfl (by omega)) rfl ?_ | refine WL.y0' guard_none (Y0.add rfl rfl) rfl ?_
          refine WL.y0' guard_none (Y0.assign rfl) rfl ?_
          refine WL.nil ?_
          refine WE.backH ⟨k + 1, true⟩ ?_ ?_ ?_ ?_
          · exact ⟨by omega, exl_step (p := fun z => z = (minimalM l)[x]) hbg hk true (by simp [h75])⟩
          · exact Fr.sub_cons rfl (Fr.sub_cons rfl (Fr.sub_cons rfl (Fr.sub_cons rfl (Fr.sub_cons rfl (Fr.sub_cons rfl (Fr.sub_nil _))))))
          · intro w hs; exact hs
          · dsimp only; omega
        · skip
          refine Chain.y0 (guard_yes rfl rfl) (fun _ hle => Y0.move rfl) ?_
          refine Chain.y0 (guard_yes rfl rfl) (fun _ hle => Y0.move rfl) ?_
          first | refine Chain.y0 (guard_yes rfl rfl) (fun _ hle => Y0.idxSlN Try.underlying42 sz27 rfl rfl (by omega)) ?_ | refine Chain.y0 (guard_yes rfl rfl) (fun _ hle => Y0.idxSl Try.underlying42 sz27 rfl rfl (by omega)) ?_
          refine Chain.y0 (guard_yes rfl rfl) (fun _ hle => Y0.loadGA _ ag27 rfl rfl (fun j v hv => hle _ _ _ (SlM.cells hcell hk j v hv))) ?_
          refine Chain.y0 (guard_yes rfl rfl) (fun _ hle => Y0.move rfl) ?_
          refine Chain.y0 (guard_yes rfl rfl) (fun _ hle => Y0.move rfl) ?_
          first | refine Chain.y0 (guard_yes rfl rfl) (fun _ hle => Y0.idxSlN Try.underlying42 sz27 rfl rfl (by omega)) ?_ | refine Chain.y0 (guard_yes rfl rfl) (fun _ hle => Y0.idxSl Try.underlying42 sz27 rfl rfl (by omega)) ?_
          refine Chain.y0 (guard_yes rfl rfl) (fun _ hle => Y0.loadGA _ ag27 rfl rfl (fun j v hv => hle _ _ _ (SlM.cells hcellq hn j v hv))) ?_
          refine Chain.caseY0 (guard_yes rfl rfl) (fun _ hle => Y0.eqlM Try.underlying27 Try.underlying3 sc3 sz3 eg27 rfl rfl) (fun h84 => ?_) (fun h84 => ?_)
          · skip
            refine Chain.y0 guard_none (fun _ hle => Y0.pickF rfl rfl) ?_
            refine Chain.y0 guard_none (fun _ hle => Y0.assign rfl) ?_
            refine Chain.tail0 hb ?_
            refine WL.nil ?_
            refine WE.nx ?_
            refine WE.inBlock ?_
            refine WE.then ?_
            refine WC.region ?_
            refine WL.y0' guard_none (Y0.move rfl) rfl ?_
            first | refine WL.y0' guard_none (Y0.addI rfl rfl (by omega)) rfl ?_ | refine WL.y0' guard_none (Y0.add rfl rfl) rfl ?_
            refine WL.y0' guard_none (Y0.assign rfl) rfl ?_
            refine WL.nil ?_
            refine WE.backH ⟨k + 1, true⟩ ?_ ?_ ?_ ?_
            · exact ⟨by omega, exl_step (p := fun z => z = (minimalM l)[x]) hbg hk true (by simp [h84])⟩
            · exact Fr.sub_cons rfl (Fr.sub_cons rfl (Fr.sub_cons rfl (Fr.sub_cons rfl (Fr.sub_cons rfl (Fr.sub_cons rfl (Fr.sub_nil _))))))
            · intro w hs; exact hs
            · dsimp only; omega
          · skip
            refine Chain.y0 guard_none (fun _ hle => Y0.pickF rfl rfl) ?_
            refine Chain.y0 guard_none (fun _ hle => Y0.assign rfl) ?_
            refine Chain.tail0 hb ?_
            refine WL.nil ?_
            refine WE.nx ?_
            refine WE.inBlock ?_
            refine WE.then ?_
            refine WC.region ?_
            refine WL.y0' guard_none (Y0.move rfl) rfl ?_
            first | refine WL.y0' guard_none (Y0.addI rfl rfl (by omega)) rfl ?_ | refine WL.y0' guard_none (Y0.add rfl rfl) rfl ?_
            refine WL.y0' guard_none (Y0.assign rfl) rfl ?_
            refine WL.nil ?_
            refine WE.backH ⟨k + 1, false⟩ ?_ ?_ ?_ ?_
            · exact ⟨by omega, exl_step (p := fun z => z = (minimalM l)[x]) hbg hk false (by simp [h75, h84])⟩
            · exact Fr.sub_cons rfl (Fr.sub_cons rfl (Fr.sub_cons rfl (Fr.sub_cons rfl (Fr.sub_cons rfl (Fr.sub_cons rfl (Fr.sub_nil _))))))
            · intro w hs; exact hs
            · dsimp only; omega
      · skip
        have hbt : bg = true := hbg.2 (.inr (by
          obtain ⟨i, hi, he⟩ := List.getElem_of_mem (minimalM_mem.1 (List.getElem_mem hn)).1
          exact ⟨i, hi, by omega, he⟩))
        subst hbt
        refine WL.nil ?_
        refine WE.then ?_
        refine WC.condF rfl ?_
        refine WC.exit ?_
        refine WE.thenExit ?_
        refine WE.thenExit ?_
        refine WE.exitHere ?_
        refine WE.then ?_
        refine WC.seq ?_
        refine WC.seq ?_
        refine WC.region ?_
        refine WL.y0' guard_none (Y0.assign rfl) rfl ?_
        refine WL.nil ?_
        refine WE.then ?_
        refine WC.block ?_
        refine WC.loopH (fun (gst : Nat) => match gst with | j => [(5, .bool true), (6, .slice p l.length cap), (8, .slice (some ⟨bq, oq, none⟩) (minimalM l).length capq), (9, .int .i64 (x : Int)), (10, .bool true), (12, .int .i64 (j : Int))]) (fun (gst : Nat) => match gst with | j => j ≤ (minimalM l).length) (fun (gst : Nat) => match gst with | j => St w0 G0 G23 []) (fun (gst : Nat) => match gst with | j => (minimalM l).length - j) 0 ?_ ?_ ?_ ?_
        · exact Fr.sub_cons rfl (Fr.sub_cons rfl (Fr.sub_cons rfl (Fr.sub_cons rfl (Fr.sub_cons rfl (Fr.sub_cons rfl (Fr.sub_nil _))))))
        · omega
        · intro w hs; exact hs
        rintro j hx
        have hjl := hx
        refine WC.seq ?_
        refine WC.seq ?_
        refine WC.region ?_
        refine WL.y0' guard_none (Y0.move rfl) rfl ?_
        refine WL.y0' guard_none (Y0.move rfl) rfl ?_
        refine WL.y0' guard_none (Y0.lenSl Try.underlying42 rfl) rfl ?_
        refine WL.caseY0 guard_none (Y0.lss rfl rfl) rfl (fun h89 => ?_) (fun h89 => ?_)
        · skip
          have hj : j < (minimalM l).length := by omega
          refine WL.nil ?_
          refine WE.then ?_
          refine WC.condT rfl ?_
          refine WC.skip ?_
          refine WE.then ?_
          refine WC.seq ?_
          refine WC.block ?_
          refine WC.seq ?_
          refine WC.drawn [false, false, false, false, false, false, false, false, false, false, false, false, false, false] mix (by kernel_rfl) (fun hb => ?_)
          refine Chain.y0 guard_none (fun _ hle => Y0.move rfl) ?_
          refine Chain.y0 guard_none (fun _ hle => Y0.move rfl) ?_
          refine Chain.caseY0 guard_none (fun _ hle => Y0.neq rfl rfl) (fun h94 => ?_) (fun h94 => ?_)
          · skip
            refine Chain.y0 guard_none (fun _ hle => Y0.move rfl) ?_
            refine Chain.y0 (guard_yes rfl rfl) (fun _ hle => Y0.move rfl) ?_
            refine Chain.y0 (guard_yes rfl rfl) (fun _ hle => Y0.move rfl) ?_
            first | refine Chain.y0 (guard_yes rfl rfl) (fun _ hle => Y0.idxSlN Try.underlying42 sz27 rfl rfl (by omega)) ?_ | refine Chain.y0 (guard_yes rfl rfl) (fun _ hle => Y0.idxSl Try.underlying42 sz27 rfl rfl (by omega)) ?_
            refine Chain.y0 (guard_yes rfl rfl) (fun _ hle => Y0.loadGA _ ag27 rfl rfl (fun j v hv => hle _ _ _ (SlM.cells hcellq hj j v hv))) ?_
            refine Chain.y0 (guard_yes rfl rfl) (fun _ hle => Y0.move rfl) ?_
            refine Chain.y0 (guard_yes rfl rfl) (fun _ hle => Y0.move rfl) ?_
            first | refine Chain.y0 (guard_yes rfl rfl) (fun _ hle => Y0.idxSlN Try.underlying42 sz27 rfl rfl (by omega)) ?_ | refine Chain.y0 (guard_yes rfl rfl) (fun _ hle => Y0.idxSl Try.underlying42 sz27 rfl rfl (by omega)) ?_
            refine Chain.y0 (guard_yes rfl rfl) (fun _ hle => Y0.loadGA _ ag27 rfl rfl (fun j v hv => hle _ _ _ (SlM.cells hcellq hn j v hv))) ?_
            refine Chain.call0 (guard_yes rfl rfl) (fun _ => YC.of E17 rfl) ((mDivides _ _).eqvB (b' := false) (decide_eq_false (minimalM_anti hj hn (by omega)))) rfl (fun G' hle => trivial) ?_
            refine Chain.y0 guard_none (fun _ hle => Y0.pickT rfl rfl) ?_
            refine Chain.tail0 hb ?_
            refine WL.nil ?_
            refine WE.nx ?_
            refine WE.then ?_
            refine WC.condF rfl ?_
            refine WC.skip ?_
            refine WE.inBlock ?_
            refine WE.then ?_
            refine WC.region ?_
            refine WL.y0' guard_none (Y0.move rfl) rfl ?_
            first | refine WL.y0' guard_none (Y0.addI rfl rfl (by omega)) rfl ?_ | refine WL.y0' guard_none (Y0.add rfl rfl) rfl ?_
            refine WL.y0' guard_none (Y0.assign rfl) rfl ?_
            refine WL.nil ?_
            refine WE.backH (j + 1) ?_ ?_ ?_ ?_
            · omega
            · exact Fr.sub_cons rfl (Fr.sub_cons rfl (Fr.sub_cons rfl (Fr.sub_cons rfl (Fr.sub_cons rfl (Fr.sub_cons rfl (Fr.sub_nil _))))))
            · intro w hs; exact hs
            · dsimp only; omega
          · skip
            refine Chain.y0 guard_none (fun _ hle => Y0.move rfl) ?_
            refine Chain.skip (guard_noT rfl rfl) ?_
            refine Chain.skip (guard_noT rfl rfl) ?_
            refine Chain.skip (guard_noT rfl rfl) ?_
            refine Chain.skip (guard_noT rfl rfl) ?_
            refine Chain.skip (guard_noT rfl rfl) ?_
            refine Chain.skip (guard_noT rfl rfl) ?_
            refine Chain.skip (guard_noT rfl rfl) ?_
            refine Chain.skip (guard_noT rfl rfl) ?_
            refine Chain.skip (guard_noT rfl rfl) ?_
            refine Chain.y0 guard_none (fun _ hle => Y0.pickF rfl rfl) ?_
            refine Chain.tail0 hb ?_
            refine WL.nil ?_
            refine WE.nx ?_
            refine WE.then ?_
            refine WC.condF rfl ?_
            refine WC.skip ?_
            refine WE.inBlock ?_
            refine WE.then ?_
            refine WC.region ?_
            refine WL.y0' guard_none (Y0.move rfl) rfl ?_
            first | refine WL.y0' guard_none (Y0.addI rfl rfl (by omega)) rfl ?_ | refine WL.y0' guard_none (Y0.add rfl rfl) rfl ?_
            refine WL.y0' guard_none (Y0.assign rfl) rfl ?_
            refine WL.nil ?_
            refine WE.backH (j + 1) ?_ ?_ ?_ ?_
            · omega
            · exact Fr.sub_cons rfl (Fr.sub_cons rfl (Fr.sub_cons rfl (Fr.sub_cons rfl (Fr.sub_cons rfl (Fr.sub_cons rfl (Fr.sub_nil _))))))
            · intro w hs; exact hs
            · dsimp only; omega
        · skip
          refine WL.nil ?_
          refine WE.then ?_
          refine WC.condF rfl ?_
          refine WC.exit ?_
          refine WE.thenExit ?_
          refine WE.thenExit ?_
          refine WE.exitHere ?_
          refine WE.then ?_
          refine WC.seq ?_
          refine WC.region ?_
          refine WL.y0' guard_none (Y0.move rfl) rfl ?_
          refine WL.y0' guard_none (Y0.not rfl) rfl ?_
          refine WL.nil ?_
          refine WE.then ?_
          refine WC.condF rfl ?_
          refine WC.skip ?_
          refine WE.inBlock ?_
          refine WE.then ?_
          refine WC.region ?_
          refine WL.y0' guard_none (Y0.move rfl) rfl ?_
          first | refine WL.y0' guard_none (Y0.addI rfl rfl (by omega)) rfl ?_ | refine WL.y0' guard_none (Y0.add rfl rfl) rfl ?_
          refine WL.y0' guard_none (Y0.assign rfl) rfl ?_
          refine WL.nil ?_
          refine WE.backH (x + 1) ?_ ?_ ?_ ?_
          · omega
          · exact Fr.sub_cons rfl (Fr.sub_cons rfl (Fr.sub_cons rfl (Fr.sub_cons rfl (Fr.sub_nil _))))
          · exact St.conseqL (Lo.sub_nil _)
          · omega
    · skip
      refine Chain.y0 guard_none (fun _ hle => Y0.move rfl) ?_
      refine Chain.skip (guard_noT rfl rfl) ?_
      refine Chain.skip (guard_noT rfl rfl) ?_
      refine Chain.skip (guard_noT rfl rfl) ?_
      refine Chain.skip (guard_noT rfl rfl) ?_
      refine Chain.skip (guard_noT rfl rfl) ?_
      refine Chain.skip (guard_noT rfl rfl) ?_
      refine Chain.skip (guard_noT rfl rfl) ?_
      refine Chain.skip (guard_noT rfl rfl) ?_
      refine Chain.skip (guard_noT rfl rfl) ?_
      refine Chain.skip (guard_noT rfl rfl) ?_
      refine Chain.skip (guard_noT rfl rfl) ?_
      refine Chain.y0 guard_none (fun _ hle => Y0.pickF rfl rfl) ?_
      refine Chain.tail0 hb ?_
      refine WL.nil ?_
      refine WE.nx ?_
      refine WE.then ?_
      refine WC.condF rfl ?_
      refine WC.skip ?_
      refine WE.then ?_
      refine WC.seq ?_
      refine WC.region ?_
      refine WL.y0' guard_none (Y0.assign rfl) rfl ?_
      refine WL.nil ?_
      refine WE.then ?_
      refine WC.seq ?_
      refine WC.seq ?_
      refine WC.region ?_
      refine WL.y0' guard_none (Y0.assign rfl) rfl ?_
      refine WL.nil ?_
      refine WE.then ?_
      refine WC.block ?_
      refine WC.loopH (fun (gst : Nat × Bool) => match gst with | ⟨k, bg⟩ => [(5, .bool true), (6, .slice p l.length cap), (8, .slice (some ⟨bq, oq, none⟩) (minimalM l).length capq), (9, .int .i64 (x : Int)), (10, .bool bg), (11, .int .i64 (k : Int))]) (fun (gst : Nat × Bool) => match gst with | ⟨k, bg⟩ => k ≤ l.length ∧ (bg = true ↔ (False ∨ ∃ (i : Nat) (h : i < l.length), i < k ∧ l[i] = (minimalM l)[x]))) (fun (gst : Nat × Bool) => match gst with | ⟨k, bg⟩ => St w0 G0 G23 []) (fun (gst : Nat × Bool) => match gst with | ⟨k, bg⟩ => l.length - k) ⟨0, false⟩ ?_ ?_ ?_ ?_
      · exact Fr.sub_cons rfl (Fr.sub_cons rfl (Fr.sub_cons rfl (Fr.sub_cons rfl (Fr.sub_cons rfl (Fr.sub_cons rfl (Fr.sub_nil _))))))
      · exact ⟨by omega, by simp⟩
      · intro w hs; exact hs
      rintro ⟨k, bg⟩ hx0
      obtain ⟨hkl, hbg⟩ := hx0
      refine WC.seq ?_
      refine WC.seq ?_
      refine WC.region ?_
      refine WL.y0' guard_none (Y0.move rfl) rfl ?_
      refine WL.y0' guard_none (Y0.move rfl) rfl ?_
      refine WL.y0' guard_none (Y0.lenSl Try.underlying42 rfl) rfl ?_
      refine WL.caseY0 guard_none (Y0.lss rfl rfl) rfl (fun h71 => ?_) (fun h71 => ?_)
      · skip
        have hk : k < l.length := by omega
        have hp := hp2 (by omega)
        subst hp
        refine WL.nil ?_
        refine WE.then ?_
        refine WC.condT rfl ?_
        refine WC.skip ?_
        refine WE.then ?_
        refine WC.seq ?_
        refine WC.block ?_
        refine WC.drawn [false, false, false, false, false, false, false, false, false, false, false, false, false] mix (by kernel_rfl) (fun hb => ?_)
        refine Chain.y0 guard_none (fun _ hle => Y0.move rfl) ?_
        refine Chain.caseY0 guard_none (fun _ hle => Y0.eq (Y0.move rfl) (congrArg Value.bool (bdec _))) (fun h75 => ?_) (fun h75 => ?_)
        · skip
          refine Chain.skip (guard_noF rfl rfl) ?_
          refine Chain.skip (guard_noF rfl rfl) ?_
          refine Chain.skip (guard_noF rfl rfl) ?_
          refine Chain.skip (guard_noF rfl rfl) ?_
          refine Chain.skip (guard_noF rfl rfl) ?_
          refine Chain.skip (guard_noF rfl rfl) ?_
          refine Chain.skip (guard_noF rfl rfl) ?_
          refine Chain.skip (guard_noF rfl rfl) ?_
          refine Chain.skip (guard_noF rfl rfl) ?_
          refine Chain.y0 guard_none (fun _ hle => Y0.pickT rfl rfl) ?_
          refine Chain.y0 guard_none (fun _ hle => Y0.assign rfl) ?_
          refine Chain.tail0 hb ?_
          refine WL.nil ?_
          refine WE.nx ?_
          refine WE.inBlock ?_
          refine WE.then ?_
          refine WC.region ?_
          refine WL.y0' guard_none (Y0.move rfl) rfl ?_
          first | refine WL.y0' guard_none (Y0.addI rfl rfl (by omega)) rfl ?_ | refine WL.y0' guard_none (Y0.add rfl rfl) rfl ?_
          refine WL.y0' guard_none (Y0.assign rfl) rfl ?_
          refine WL.nil ?_
          refine WE.backH ⟨k + 1, true⟩ ?_ ?_ ?_ ?_
          · exact ⟨by omega, exl_step (p := fun z => z = (minimalM l)[x]) hbg hk true (by simp [h75])⟩
          · exact Fr.sub_cons rfl (Fr.sub_cons rfl (Fr.sub_cons rfl (Fr.sub_cons rfl (Fr.sub_cons rfl (Fr.sub_cons rfl (Fr.sub_nil _))))))
          · intro w hs; exact hs
          · dsimp only; omega
        · skip
          refine Chain.y0 (guard_yes rfl rfl) (fun _ hle => Y0.move rfl) ?_
          refine Chain.y0 (guard_yes rfl rfl) (fun _ hle => Y0.move rfl) ?_
          first | refine Chain.y0 (guard_yes rfl rfl) (fun _ hle => Y0.idxSlN Try.underlying42 sz27 rfl rfl (by omega)) ?_ | refine Chain.y0 (guard_yes rfl rfl) (fun _ hle => Y0.idxSl Try.underlying42 sz27 rfl rfl (by omega)) ?_
          refine Chain.y0 (guard_yes rfl rfl) (fun _ hle => Y0.loadGA _ ag27 rfl rfl (fun j v hv => hle _ _ _ (SlM.cells hcell hk j v hv))) ?_
          refine Chain.y0 (guard_yes rfl rfl) (fun _ hle => Y0.move rfl) ?_
          refine Chain.y0 (guard_yes rfl rfl) (fun _ hle => Y0.move rfl) ?_
          first | refine Chain.y0 (guard_yes rfl rfl) (fun _ hle => Y0.idxSlN Try.underlying42 sz27 rfl rfl (by omega)) ?_ | refine Chain.y0 (guard_yes rfl rfl) (fun _ hle => Y0.idxSl Try.underlying42 sz27 rfl rfl (by omega)) ?_
          refine Chain.y0 (guard_yes rfl rfl) (fun _ hle => Y0.loadGA _ ag27 rfl rfl (fun j v hv => hle _ _ _ (SlM.cells hcellq hn j v hv))) ?_
          refine Chain.caseY0 (guard_yes rfl rfl) (fun _ hle => Y0.eqlM Try.underlying27 Try.underlying3 sc3 sz3 eg27 rfl rfl) (fun h84 => ?_) (fun h84 => ?_)
          · skip
            refine Chain.y0 guard_none (fun _ hle => Y0.pickF rfl rfl) ?_
            refine Chain.y0 guard_none (fun _ hle => Y0.assign rfl) ?_
            refine Chain.tail0 hb ?_
            refine WL.nil ?_
            refine WE.nx ?_
            refine WE.inBlock ?_
            refine WE.then ?_
            refine WC.region ?_
            refine WL.y0' guard_none (Y0.move rfl) rfl ?_
            first | refine WL.y0' guard_none (Y0.addI rfl rfl (by omega)) rfl ?_ | refine WL.y0' guard_none (Y0.add rfl rfl) rfl ?_
            refine WL.y0' guard_none (Y0.assign rfl) rfl ?_
            refine WL.nil ?_
            refine WE.backH ⟨k + 1, true⟩ ?_ ?_ ?_ ?_
            · exact ⟨by omega, exl_step (p := fun z => z = (minimalM l)[x]) hbg hk true (by simp [h84])⟩
            · exact Fr.sub_cons rfl (Fr.sub_cons rfl (Fr.sub_cons rfl (Fr.sub_cons rfl (Fr.sub_cons rfl (Fr.sub_cons rfl (Fr.sub_nil _))))))
            · intro w hs; exact hs
            · dsimp only; omega
          · skip
            refine Chain.y0 guard_none (fun _ hle => Y0.pickF rfl rfl) ?_
            refine Chain.y0 guard_none (fun _ hle => Y0.assign rfl) ?_
            refine Chain.tail0 hb ?_
            refine WL.nil ?_
            refine WE.nx ?_
            refine WE.inBlock ?_
            refine WE.then ?_
            refine WC.region ?_
            refine WL.y0' guard_none (Y0.move rfl) rfl ?_
            first | refine WL.y0' guard_none (Y0.addI rfl rfl (by omega)) rfl ?_ | refine WL.y0' guard_none (Y0.add rfl rfl) rfl ?_
            refine WL.y0' guard_none (Y0.assign rfl) rfl ?_
            refine WL.nil ?_
            refine WE.backH ⟨k + 1, false⟩ ?_ ?_ ?_ ?_
            · exact ⟨by omega, exl_step (p := fun z => z = (minimalM l)[x]) hbg hk false (by simp [h75, h84])⟩
            · exact Fr.sub_cons rfl (Fr.sub_cons rfl (Fr.sub_cons rfl (Fr.sub_cons rfl (Fr.sub_cons rfl (Fr.sub_cons rfl (Fr.sub_nil _))))))
            · intro w hs; exact hs
            · dsimp only; omega
      · skip
        have hbt : bg = true := hbg.2 (.inr (by
          obtain ⟨i, hi, he⟩ := List.getElem_of_mem (minimalM_mem.1 (List.getElem_mem hn)).1
          exact ⟨i, hi, by omega, he⟩))
        subst hbt
        refine WL.nil ?_
        refine WE.then ?_
        refine WC.condF rfl ?_
        refine WC.exit ?_
        refine WE.thenExit ?_
        refine WE.thenExit ?_
        refine WE.exitHere ?_
        refine WE.then ?_
        refine WC.seq ?_
        refine WC.seq ?_
        refine WC.region ?_
        refine WL.y0' guard_none (Y0.assign rfl) rfl ?_
        refine WL.nil ?_
        refine WE.then ?_
        refine WC.block ?_
        refine WC.loopH (fun (gst : Nat) => match gst with | j => [(5, .bool true), (6, .slice p l.length cap), (8, .slice (some ⟨bq, oq, none⟩) (minimalM l).length capq), (9, .int .i64 (x : Int)), (10, .bool true), (12, .int .i64 (j : Int))]) (fun (gst : Nat) => match gst with | j => j ≤ (minimalM l).length) (fun (gst : Nat) => match gst with | j => St w0 G0 G23 []) (fun (gst : Nat) => match gst with | j => (minimalM l).length - j) 0 ?_ ?_ ?_ ?_
        · exact Fr.sub_cons rfl (Fr.sub_cons rfl (Fr.sub_cons rfl (Fr.sub_cons rfl (Fr.sub_cons rfl (Fr.sub_cons rfl (Fr.sub_nil _))))))
        · omega
        · intro w hs; exact hs
        rintro j hx
        have hjl := hx
        refine WC.seq ?_
        refine WC.seq ?_
        refine WC.region ?_
        refine WL.y0' guard_none (Y0.move rfl) rfl ?_
        refine WL.y0' guard_none (Y0.move rfl) rfl ?_
        refine WL.y0' guard_none (Y0.lenSl Try.underlying42 rfl) rfl ?_
        refine WL.caseY0 guard_none (Y0.lss rfl rfl) rfl (fun h89 => ?_) (fun h89 => ?_)
        · skip
          have hj : j < (minimalM l).length := by omega
          refine WL.nil ?_
          refine WE.then ?_
          refine WC.condT rfl ?_
          refine WC.skip ?_
          refine WE.then ?_
          refine WC.seq ?_
          refine WC.block ?_
          refine WC.seq ?_
          refine WC.drawn [false, false, false, false, false, false, false, false, false, false, false, false, false, false] mix (by kernel_rfl) (fun hb => ?_)
          refine Chain.y0 guard_none (fun _ hle => Y0.move rfl) ?_
          refine Chain.y0 guard_none (fun _ hle => Y0.move rfl) ?_
          refine Chain.caseY0 guard_none (fun _ hle => Y0.neq rfl rfl) (fun h94 => ?_) (fun h94 => ?_)
          · skip
            refine Chain.y0 guard_none (fun _ hle => Y0.move rfl) ?_
            refine Chain.y0 (guard_yes rfl rfl) (fun _ hle => Y0.move rfl) ?_
            refine Chain.y0 (guard_yes rfl rfl) (fun _ hle => Y0.move rfl) ?_
            first | refine Chain.y0 (guard_yes rfl rfl) (fun _ hle => Y0.idxSlN Try.underlying42 sz27 rfl rfl (by omega)) ?_ | refine Chain.y0 (guard_yes rfl rfl) (fun _ hle => Y0.idxSl Try.underlying42 sz27 rfl rfl (by omega)) ?_
            refine Chain.y0 (guard_yes rfl rfl) (fun _ hle => Y0.loadGA _ ag27 rfl rfl (fun j v hv => hle _ _ _ (SlM.cells hcellq hj j v hv))) ?_
            refine Chain.y0 (guard_yes rfl rfl) (fun _ hle => Y0.move rfl) ?_
            refine Chain.y0 (guard_yes rfl rfl) (fun _ hle => Y0.move rfl) ?_
            first | refine Chain.y0 (guard_yes rfl rfl) (fun _ hle => Y0.idxSlN Try.underlying42 sz27 rfl rfl (by omega)) ?_ | refine Chain.y0 (guard_yes rfl rfl) (fun _ hle => Y0.idxSl Try.underlying42 sz27 rfl rfl (by omega)) ?_
            refine Chain.y0 (guard_yes rfl rfl) (fun _ hle => Y0.loadGA _ ag27 rfl rfl (fun j v hv => hle _ _ _ (SlM.cells hcellq hn j v hv))) ?_
            refine Chain.call0 (guard_yes rfl rfl) (fun _ => YC.of E17 rfl) ((mDivides _ _).eqvB (b' := false) (decide_eq_false (minimalM_anti hj hn (by omega)))) rfl (fun G' hle => trivial) ?_
            refine Chain.y0 guard_none (fun _ hle => Y0.pickT rfl rfl) ?_
            refine Chain.tail0 hb ?_
            refine WL.nil ?_
            refine WE.nx ?_
            refine WE.then ?_
            refine WC.condF rfl ?_
            refine WC.skip ?_
            refine WE.inBlock ?_
            refine WE.then ?_
            refine WC.region ?_
            refine WL.y0' guard_none (Y0.move rfl) rfl ?_
            first | refine WL.y0' guard_none (Y0.addI rfl rfl (by omega)) rfl ?_ | refine WL.y0' guard_none (Y0.add rfl rfl) rfl ?_
            refine WL.y0' guard_none (Y0.assign rfl) rfl ?_
            refine WL.nil ?_
            refine WE.backH (j + 1) ?_ ?_ ?_ ?_
            · omega
            · exact Fr.sub_cons rfl (Fr.sub_cons rfl (Fr.sub_cons rfl (Fr.sub_cons rfl (Fr.sub_cons rfl (Fr.sub_cons rfl (Fr.sub_nil _))))))
            · intro w hs; exact hs
            · dsimp only; omega
          · skip
            refine Chain.y0 guard_none (fun _ hle => Y0.move rfl) ?_
            refine Chain.skip (guard_noT rfl rfl) ?_
            refine Chain.skip (guard_noT rfl rfl) ?_
            refine Chain.skip (guard_noT rfl rfl) ?_
            refine Chain.skip (guard_noT rfl rfl) ?_
            refine Chain.skip (guard_noT rfl rfl) ?_
            refine Chain.skip (guard_noT rfl rfl) ?_
            refine Chain.skip (guard_noT rfl rfl) ?_
            refine Chain.skip (guard_noT rfl rfl) ?_
            refine Chain.skip (guard_noT rfl rfl) ?_
            refine Chain.y0 guard_none (fun _ hle => Y0.pickF rfl rfl) ?_
            refine Chain.tail0 hb ?_
            refine WL.nil ?_
            refine WE.nx ?_
            refine WE.then ?_
            refine WC.condF rfl ?_
            refine WC.skip ?_
            refine WE.inBlock ?_
            refine WE.then ?_
            refine WC.region ?_
            refine WL.y0' guard_none (Y0.move rfl) rfl ?_
            first | refine WL.y0' guard_none (Y0.addI rfl rfl (by omega)) rfl ?_ | refine WL.y0' guard_none (Y0.add rfl rfl) rfl ?_
            refine WL.y0' guard_none (Y0.assign rfl) rfl ?_
            refine WL.nil ?_
            refine WE.backH (j + 1) ?_ ?_ ?_ ?_
            · omega
            · exact Fr.sub_cons rfl (Fr.sub_cons rfl (Fr.sub_cons rfl (Fr.sub_cons rfl (Fr.sub_cons rfl (Fr.sub_cons rfl (Fr.sub_nil _))))))
            · intro w hs; exact hs
            · dsimp only; omega
        · skip
          refine WL.nil ?_
          refine WE.then ?_
          refine WC.condF rfl ?_
          refine WC.exit ?_
          refine WE.thenExit ?_
          refine WE.thenExit ?_
          refine WE.exitHere ?_
          refine WE.then ?_
          refine WC.seq ?_
          refine WC.region ?_
          refine WL.y0' guard_none (Y0.move rfl) rfl ?_
          refine WL.y0' guard_none (Y0.not rfl) rfl ?_
          refine WL.nil ?_
          refine WE.then ?_
          refine WC.condF rfl ?_
          refine WC.skip ?_
          refine WE.inBlock ?_
          refine WE.then ?_
          refine WC.region ?_
          refine WL.y0' guard_none (Y0.move rfl) rfl ?_
          first | refine WL.y0' guard_none (Y0.addI rfl rfl (by omega)) rfl ?_ | refine WL.y0' guard_none (Y0.add rfl rfl) rfl ?_
          refine WL.y0' guard_none (Y0.assign rfl) rfl ?_
          refine WL.nil ?_
          refine WE.backH (x + 1) ?_ ?_ ?_ ?_
          · omega
          · exact Fr.sub_cons rfl (Fr.sub_cons rfl (Fr.sub_cons rfl (Fr.sub_cons rfl (Fr.sub_nil _))))
          · exact St.conseqL (Lo.sub_nil _)
          · omega
  · skip
    refine WL.nil ?_
    refine WE.then ?_
    refine WC.condF rfl ?_
    refine WC.exit ?_
    refine WE.thenExit ?_
    refine WE.thenExit ?_
    refine WE.exitHere ?_
    refine WE.then ?_
    refine WC.seq ?_
    refine WC.region ?_
    refine WL.buildSl 108 guard_none rfl (vs := #[]) rfl rfl be42 (fun b108 => ?_)
    refine WL.y0' guard_none (Y0.assign rfl) rfl ?_
    refine WL.nil ?_
    refine WE.then ?_
    refine WC.seq ?_
    refine WC.seq ?_
    refine WC.region ?_
    refine WL.y0' guard_none (Y0.move rfl) rfl ?_
    refine WL.y0' guard_none (Y0.lenSl Try.underlying42 rfl) rfl ?_
    first | refine WL.y0' guard_none (Y0.subI rfl rfl (by omega)) rfl ?_ | refine WL.y0' guard_none (Y0.sub rfl rfl) rfl ?_
    refine WL.y0' guard_none (Y0.assign rfl) rfl ?_
    refine WL.nil ?_
    refine WE.then ?_
    refine WC.block ?_
    refine WC.loopH (fun (gst : Nat × Option Row) => match gst with | ⟨k, ov⟩ => [(5, .bool true), (6, .slice p l.length cap), (8, .slice q (minimalM l).length capq), (13, rowV ov (2 * k)), (14, .int .i64 ((l.length : Int) - 1 - (k : Int)))]) (fun (gst : Nat × Option Row) => match gst with | ⟨k, ov⟩ => k ≤ l.length ∧ RowOk 8 ov (2 * k) (flat (backL l k))) (fun (gst : Nat × Option Row) => match gst with | ⟨k, ov⟩ => St w0 G0 G23 ([] ++ rowL 108 27 ov)) (fun (gst : Nat × Option Row) => match gst with | ⟨k, ov⟩ => l.length - k) ⟨0, some ⟨b108, 0, #[]⟩⟩ ?_ ?_ ?_ ?_
    · exact Fr.sub_cons rfl (Fr.sub_cons rfl (Fr.sub_cons rfl (Fr.sub_cons rfl (Fr.sub_cons (congrArg (fun z : Int => some (Value.int .i64 z)) (by omega)) (Fr.sub_nil _)))))
    · exact ⟨by omega, ⟨rfl, by omega, by simp only [maxLen]; omega, rfl, rfl⟩⟩
    · intro w hs; exact hs
    rintro ⟨k, ov⟩ hx0
    obtain ⟨hkl, hok⟩ := hx0
    refine WC.seq ?_
    refine WC.seq ?_
    refine WC.region ?_
    refine WL.y0' guard_none (Y0.move rfl) rfl ?_
    refine WL.caseY0 guard_none (Y0.geq rfl rfl) rfl (fun h113 => ?_) (fun h113 => ?_)
    · skip
      have hp := hp2 (by omega)
      subst hp
      obtain ⟨z, hz⟩ : ∃ z : Nat, z = l.length - 1 - k := ⟨_, rfl⟩
      have hzl : z < l.length := by omega
      have h0l : 0 < l.length := by omega
      refine WL.nil ?_
      refine WE.then ?_
      refine WC.condT rfl ?_
      refine WC.skip ?_
      refine WE.then ?_
      refine WC.seq ?_
      refine WC.block ?_
      refine WC.seq ?_
      refine WC.seq ?_
      refine WC.region ?_
      refine WL.y0' guard_none (Y0.move rfl) rfl ?_
      refine WL.y0' guard_none (Y0.eq (Y0.move rfl) (congrArg (Value.int .i64) (show (l.length : Int) - 1 - (k : Int) = (z : Int) by omega))) rfl ?_
      first | refine WL.y0' guard_none (Y0.idxSlN Try.underlying42 sz27 rfl rfl (by omega)) rfl ?_ | refine WL.y0' guard_none (Y0.idxSl Try.underlying42 sz27 rfl rfl (by omega)) rfl ?_
      refine WL.y0' guard_none (Y0.loadGA _ ag27 rfl rfl (SlM.cells hcell hzl)) rfl ?_
      refine WL.y0' guard_none (Y0.move rfl) rfl ?_
      refine WL.call0 guard_none rfl (YC.of E34 rfl) ((mIn _ _ (minimalM l)).eqvB (b' := true) (inM_self hzl)) rfl (hsm) ?_
      refine WL.y0' guard_none (Y0.not rfl) rfl ?_
      refine WL.nil ?_
      refine WE.then ?_
      refine WC.condF rfl ?_
      refine WC.skip ?_
      refine WE.then ?_
      refine WC.drawn [true, false, false, false, false, false, false, false] mix (by kernel_rfl) (fun hb => ?_)
      refine Chain.float guard_none (Y0.move rfl) ?_
      refine Chain.y0 guard_none (fun _ hle => Y0.move rfl) ?_
      refine Chain.y0 guard_none (fun _ hle => Y0.eq (Y0.move rfl) (congrArg (Value.int .i64) (show (l.length : Int) - 1 - (k : Int) = (z : Int) by omega))) ?_
      first | refine Chain.y0 guard_none (fun _ hle => Y0.idxSlN Try.underlying42 sz27 rfl rfl (by omega)) ?_ | refine Chain.y0 guard_none (fun _ hle => Y0.idxSl Try.underlying42 sz27 rfl rfl (by omega)) ?_
      refine Chain.y0 guard_none (fun _ hle => Y0.loadGA _ ag27 rfl rfl (fun j v hv => hle _ _ _ (SlM.cells hcell hzl j v hv))) ?_
      refine Chain.y0 guard_none (fun _ hle => Y0.move rfl) ?_
      first | refine Chain.y0 guard_none (fun _ hle => Y0.idxSlN Try.underlying42 sz27 rfl rfl (by omega)) ?_ | refine Chain.y0 guard_none (fun _ hle => Y0.idxSl Try.underlying42 sz27 rfl rfl (by omega)) ?_
      refine Chain.y0 guard_none (fun _ hle => Y0.loadGA _ ag27 rfl rfl (fun j v hv => hle _ _ _ (SlM.cells hcell h0l j v hv))) ?_
      refine Chain.tail0 hb ?_
      refine WL.buildSl 131 guard_none rfl (vs := #[(0, .agg (vecA l[z])), (1, .agg (vecA l[0]))]) rfl rfl (bs42_2 _ _) (fun b131 => ?_)
      refine WL.append 108 [(131, b131, .cells (flat [l[z], l[0]]).toArray 27 (0, 0))] guard_none rfl Try.underlying42 el27 rfl rfl rfl (fun _ h => h) rfl hok (Src.ofL (i := 131) rfl) rfl (flat_one_cell _) (by simp only [maxLen]; omega) (by omega) (fun ov1 hok1 => ?_)
      have hok2 : RowOk 8 ov1 (2 * (k + 1)) (flat (backL l (k + 1))) := by
        rw [backL_step hzl h0l hz, flat_append, show 2 * (k + 1) = 2 * k + 2 by omega]; exact hok1
      refine WL.y0' guard_none (Y0.assign rfl) rfl ?_
      refine WL.nil ?_
      refine WE.nx ?_
      refine WE.inBlock ?_
      refine WE.then ?_
      refine WC.region ?_
      refine WL.y0' guard_none (Y0.move rfl) rfl ?_
      first | refine WL.y0' guard_none (Y0.subI rfl rfl (by omega)) rfl ?_ | refine WL.y0' guard_none (Y0.sub rfl rfl) rfl ?_
      refine WL.y0' guard_none (Y0.assign rfl) rfl ?_
      refine WL.nil ?_
      refine WE.backH ⟨k + 1, ov1⟩ ?_ ?_ ?_ ?_
      · exact ⟨by omega, hok2⟩
      · exact Fr.sub_cons rfl (Fr.sub_cons rfl (Fr.sub_cons rfl (Fr.sub_cons (congrArg (fun z : Nat => some (rowV ov1 z)) (by omega)) (Fr.sub_cons (congrArg (fun z : Int => some (Value.int .i64 z)) (by omega)) (Fr.sub_nil _)))))
      · exact St.conseqL (Lo.sub_app (Lo.sub_nil _) rfl)
      · dsimp only; omega
    · skip
      have hkk : k = l.length := by omega
      subst hkk
      refine WL.nil ?_
      refine WE.then ?_
      refine WC.condF rfl ?_
      refine WC.exit ?_
      refine WE.thenExit ?_
      refine WE.thenExit ?_
      refine WE.exitHere ?_
      refine WE.then ?_
      refine WC.seq ?_
      refine WC.region ?_
      refine WL.y0' guard_none (Y0.move rfl) rfl ?_
      refine WL.y0' guard_none (Y0.move rfl) rfl ?_
      refine WL.y0' (guard_yes rfl rfl) (Y0.move rfl) rfl ?_
      have hlb := backL_length l l.length
      rw [← hlb] at hok
      refine WL.give rfl (by rw [hL0]; rfl) hok (fun G1 hle1 hslb => ?_)
      rw [hlb] at hslb
      refine WL.call (guard_yes rfl rfl) rfl (YC.of E33 rfl) (mMinimal _ _ (by rw [hlb]; omega)) rfl hslb (fun v136 G136 hle136 hp136 => ?_)
      rw [minimal_back] at hp136
      refine WL.y0' (guard_yes rfl rfl) (Y0.move rfl) rfl ?_
      refine WL.call0 (guard_yes rfl rfl) rfl (YC.of E35 rfl) ((rSame _ _ (minimalM l) (minimalM l)).eqvB (b' := true) (decide_eq_true rfl)) rfl (⟨hp136, hsm.mono (Mem.le_trans hle1 hle136)⟩) ?_
      refine WL.y0' guard_none (Y0.pickT rfl rfl) rfl ?_
      refine WL.y0' guard_none (Y0.assign rfl) rfl ?_
      refine WL.nil ?_
      refine WE.then ?_
      refine WC.ret ?_
      refine WE.ret1 rfl rfl ?_
      rfl

end Go.Proofs.Ytdpmpefjplfgbaa
