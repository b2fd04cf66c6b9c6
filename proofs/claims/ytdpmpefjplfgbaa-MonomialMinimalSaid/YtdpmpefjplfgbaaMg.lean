/- The law on limits, as a contract: it returns true. The conditions stand in each statement. -/
import Derived.Test.YtdpmpefjplfgbaaMf
import Derived.Test.YtdpmpefjplfgbaaElp
namespace Go.Proofs.Ytdpmpefjplfgbaa
open Go Go.EL Go.RowKit
theorem mAllOkI (n d : Int) (h1 : 0 ≤ n) (h2 : n ≤ 8) (h3 : 0 ≤ d) (h4 : d ≤ 12) : Ctr Try.prog 30 #[.int .i64 n, .int .i64 d] (fun _ => True) (fun G r => ∃ v, r = .tuple #[v, .int .i64 0] ∧ SlM G v (allM n.toNat d.toNat)) := by
  have := mAllOk n.toNat d.toNat (by omega) (by omega)
  rwa [Int.toNat_of_nonneg h1, Int.toNat_of_nonneg h3] at this

theorem cMonomialLimits (m : M) (a b : Int) : Ctr Try.prog 4 #[.agg (vecA m), .agg #[.int .i64 a, .int .i64 b]] (fun G => True) (fun G r => r = .bool true) := by
  refine Ctr.enter (args := [_, _]) (N := 95) Try.func4 rfl rfl rfl (fun w0 G0 hL0 hpre => ?_)
  refine WC.seq ?_
  refine WC.region ?_
  refine WL.box 2 guard_none rfl rfl (fun b2 => ?_)
  refine WL.box 3 guard_none rfl rfl (fun b3 => ?_)
  refine WL.y0' guard_none (Y0.assign rfl) rfl ?_
  refine WL.nil ?_
  refine WE.then ?_
  refine WC.seq ?_
  refine WC.region ?_
  refine WL.call0 guard_none rfl (YC.of E11 rfl) (lsanity) rfl (trivial) ?_
  refine WL.y0' guard_none (Y0.assign rfl) rfl ?_
  refine WL.nil ?_
  refine WE.then ?_
  refine WC.seq ?_
  refine WC.seq ?_
  refine WC.region ?_
  refine WL.y0' guard_none (Y0.move rfl) rfl ?_
  refine WL.y0' guard_none (Y0.not rfl) rfl ?_
  refine WL.nil ?_
  refine WE.then ?_
  refine WC.condF rfl ?_
  refine WC.skip ?_
  refine WE.then ?_
  refine WC.seq ?_
  refine WC.region ?_
  refine WL.y0' guard_none (Y0.assign rfl) rfl ?_
  refine WL.nil ?_
  refine WE.then ?_
  refine WC.seq ?_
  refine WC.seq ?_
  refine WC.region ?_
  refine WL.y0' guard_none (Y0.assign rfl) rfl ?_
  refine WL.nil ?_
  refine WE.then ?_
  refine WC.block ?_
  refine WC.loopH (fun (gst : Nat × Bool) => match gst with | ⟨k, bg⟩ => [(2, .pointer (some ⟨b2, 0, none⟩)), (3, .pointer (some ⟨b3, 0, none⟩)), (5, .bool true), (6, .bool bg), (7, .int .i64 (k : Int))]) (fun (gst : Nat × Bool) => match gst with | ⟨k, bg⟩ => k ≤ 8 ∧ (bg = true ↔ ∀ i : Fin 8, i.val < k → 0 ≤ m i ∧ m i ≤ 65535)) (fun (gst : Nat × Bool) => match gst with | ⟨k, bg⟩ => St w0 G0 G0 [(2, b2, .cells (vecA m) 27 (0, 0)), (3, b3, .cells #[.int .i64 a, .int .i64 b] 40 (0, 0))]) (fun (gst : Nat × Bool) => match gst with | ⟨k, bg⟩ => 8 - k) ⟨0, true⟩ ?_ ?_ ?_ ?_
  · exact Fr.sub_cons rfl (Fr.sub_cons rfl (Fr.sub_cons rfl (Fr.sub_cons rfl (Fr.sub_cons rfl (Fr.sub_nil _)))))
  · exact ⟨by omega, by simp⟩
  · exact St.conseqL (Lo.sub_cons (rfl) (Lo.sub_cons (rfl) (Lo.sub_nil _)))
  rintro ⟨k, bg⟩ hx0
  obtain ⟨hk, hbg⟩ := hx0
  refine WC.seq ?_
  refine WC.seq ?_
  refine WC.region ?_
  refine WL.y0' guard_none (Y0.move rfl) rfl ?_
  refine WL.caseY0 guard_none (Y0.lss rfl rfl) rfl (fun h15 => ?_) (fun h15 => ?_)
  · skip
    have hn : k < 8 := by omega
    refine WL.nil ?_
    refine WE.then ?_
    refine WC.condT rfl ?_
    refine WC.skip ?_
    refine WE.then ?_
    refine WC.seq ?_
    refine WC.block ?_
    refine WC.region ?_
    refine WL.caseY0 guard_none (Y0.eq (Y0.move rfl) (congrArg Value.bool (bdec _))) rfl (fun h18 => ?_) (fun h18 => ?_)
    · skip
      refine WL.y0' guard_none (Y0.move rfl) rfl ?_
      refine WL.y0' (guard_yes rfl rfl) (Y0.move rfl) rfl ?_
      first | refine WL.y0' (guard_yes rfl rfl) (Y0.idxArr1 Try.underlying27 sz3 rfl rfl (by omega)) rfl ?_ | refine WL.y0' (guard_yes rfl rfl) (Y0.idxArr Try.underlying27 sz3 rfl rfl (by omega)) rfl ?_
      refine WL.y0' (guard_yes rfl rfl) (Y0.loadL 2 sc3 rfl rfl (vecA_get m hn)) rfl ?_
      refine WL.caseY0 (guard_yes rfl rfl) (Y0.geq rfl rfl) rfl (fun h23 => ?_) (fun h23 => ?_)
      · skip
        refine WL.y0' guard_none (Y0.pickT rfl rfl) rfl ?_
        refine WL.y0' guard_none (Y0.move rfl) rfl ?_
        refine WL.y0' (guard_yes rfl rfl) (Y0.move rfl) rfl ?_
        first | refine WL.y0' (guard_yes rfl rfl) (Y0.idxArr1 Try.underlying27 sz3 rfl rfl (by omega)) rfl ?_ | refine WL.y0' (guard_yes rfl rfl) (Y0.idxArr Try.underlying27 sz3 rfl rfl (by omega)) rfl ?_
        refine WL.y0' (guard_yes rfl rfl) (Y0.loadL 2 sc3 rfl rfl (vecA_get m hn)) rfl ?_
        refine WL.caseY0 (guard_yes rfl rfl) (Y0.leq rfl rfl) rfl (fun h29 => ?_) (fun h29 => ?_)
        · skip
          refine WL.y0' guard_none (Y0.pickT rfl rfl) rfl ?_
          refine WL.y0' guard_none (Y0.assign rfl) rfl ?_
          refine WL.nil ?_
          refine WE.inBlock ?_
          refine WE.then ?_
          refine WC.region ?_
          refine WL.y0' guard_none (Y0.move rfl) rfl ?_
          first | refine WL.y0' guard_none (Y0.addI rfl rfl (by omega)) rfl ?_ | refine WL.y0' guard_none (Y0.add rfl rfl) rfl ?_
          refine WL.y0' guard_none (Y0.assign rfl) rfl ?_
          refine WL.nil ?_
          refine WE.backH ⟨k + 1, true⟩ ?_ ?_ ?_ ?_
          · exact ⟨by omega, al_step hbg hn true (by simp [h18]; omega)⟩
          · exact Fr.sub_cons rfl (Fr.sub_cons rfl (Fr.sub_cons rfl (Fr.sub_cons rfl (Fr.sub_cons rfl (Fr.sub_nil _)))))
          · exact St.conseqL (Lo.sub_cons (rfl) (Lo.sub_cons (rfl) (Lo.sub_nil _)))
          · dsimp only; omega
        · skip
          refine WL.y0' guard_none (Y0.pickT rfl rfl) rfl ?_
          refine WL.y0' guard_none (Y0.assign rfl) rfl ?_
          refine WL.nil ?_
          refine WE.inBlock ?_
          refine WE.then ?_
          refine WC.region ?_
          refine WL.y0' guard_none (Y0.move rfl) rfl ?_
          first | refine WL.y0' guard_none (Y0.addI rfl rfl (by omega)) rfl ?_ | refine WL.y0' guard_none (Y0.add rfl rfl) rfl ?_
          refine WL.y0' guard_none (Y0.assign rfl) rfl ?_
          refine WL.nil ?_
          refine WE.backH ⟨k + 1, false⟩ ?_ ?_ ?_ ?_
          · exact ⟨by omega, al_step hbg hn false (by simp; omega)⟩
          · exact Fr.sub_cons rfl (Fr.sub_cons rfl (Fr.sub_cons rfl (Fr.sub_cons rfl (Fr.sub_cons rfl (Fr.sub_nil _)))))
          · exact St.conseqL (Lo.sub_cons (rfl) (Lo.sub_cons (rfl) (Lo.sub_nil _)))
          · dsimp only; omega
      · skip
        refine WL.y0' guard_none (Y0.pickT rfl rfl) rfl ?_
        refine WL.y0' guard_none (Y0.move rfl) rfl ?_
        refine WL.skip (guard_noT rfl rfl) rfl ?_
        refine WL.skip (guard_noT rfl rfl) rfl ?_
        refine WL.skip (guard_noT rfl rfl) rfl ?_
        refine WL.skip (guard_noT rfl rfl) rfl ?_
        refine WL.y0' guard_none (Y0.pickF rfl rfl) rfl ?_
        refine WL.y0' guard_none (Y0.assign rfl) rfl ?_
        refine WL.nil ?_
        refine WE.inBlock ?_
        refine WE.then ?_
        refine WC.region ?_
        refine WL.y0' guard_none (Y0.move rfl) rfl ?_
        first | refine WL.y0' guard_none (Y0.addI rfl rfl (by omega)) rfl ?_ | refine WL.y0' guard_none (Y0.add rfl rfl) rfl ?_
        refine WL.y0' guard_none (Y0.assign rfl) rfl ?_
        refine WL.nil ?_
        refine WE.backH ⟨k + 1, false⟩ ?_ ?_ ?_ ?_
        · exact ⟨by omega, al_step hbg hn false (by simp; omega)⟩
        · exact Fr.sub_cons rfl (Fr.sub_cons rfl (Fr.sub_cons rfl (Fr.sub_cons rfl (Fr.sub_cons rfl (Fr.sub_nil _)))))
        · exact St.conseqL (Lo.sub_cons (rfl) (Lo.sub_cons (rfl) (Lo.sub_nil _)))
        · dsimp only; omega
    · skip
      refine WL.y0' guard_none (Y0.move rfl) rfl ?_
      refine WL.skip (guard_noT rfl rfl) rfl ?_
      refine WL.skip (guard_noT rfl rfl) rfl ?_
      refine WL.skip (guard_noT rfl rfl) rfl ?_
      refine WL.skip (guard_noT rfl rfl) rfl ?_
      refine WL.y0' guard_none (Y0.pickF rfl rfl) rfl ?_
      refine WL.y0' guard_none (Y0.move rfl) rfl ?_
      refine WL.skip (guard_noT rfl rfl) rfl ?_
      refine WL.skip (guard_noT rfl rfl) rfl ?_
      refine WL.skip (guard_noT rfl rfl) rfl ?_
      refine WL.skip (guard_noT rfl rfl) rfl ?_
      refine WL.y0' guard_none (Y0.pickF rfl rfl) rfl ?_
      refine WL.y0' guard_none (Y0.assign rfl) rfl ?_
      refine WL.nil ?_
      refine WE.inBlock ?_
      refine WE.then ?_
      refine WC.region ?_
      refine WL.y0' guard_none (Y0.move rfl) rfl ?_
      first | refine WL.y0' guard_none (Y0.addI rfl rfl (by omega)) rfl ?_ | refine WL.y0' guard_none (Y0.add rfl rfl) rfl ?_
      refine WL.y0' guard_none (Y0.assign rfl) rfl ?_
      refine WL.nil ?_
      refine WE.backH ⟨k + 1, false⟩ ?_ ?_ ?_ ?_
      · exact ⟨by omega, al_step hbg hn false (by simp [h18])⟩
      · exact Fr.sub_cons rfl (Fr.sub_cons rfl (Fr.sub_cons rfl (Fr.sub_cons rfl (Fr.sub_cons rfl (Fr.sub_nil _)))))
      · exact St.conseqL (Lo.sub_cons (rfl) (Lo.sub_cons (rfl) (Lo.sub_nil _)))
      · dsimp only; omega
  · skip
    have hbg2 : bg = decide (Ok m) := bool_of_iff (al_all hbg (by omega))
    subst hbg2
    clear hbg
    refine WL.nil ?_
    refine WE.then ?_
    refine WC.condF rfl ?_
    refine WC.exit ?_
    refine WE.thenExit ?_
    refine WE.thenExit ?_
    refine WE.exitHere ?_
    refine WE.then ?_
    refine WC.seq ?_
    refine WC.region ?_
    refine WL.y0' guard_none (Y0.idxArr Try.underlying40 sz3 rfl rfl (by omega)) rfl ?_
    refine WL.y0' guard_none (Y0.loadL 3 sc3 rfl rfl rfl) rfl ?_
    refine WL.caseY0 guard_none (Y0.geq rfl rfl) rfl (fun h33 => ?_) (fun h33 => ?_)
    · skip
      refine WL.y0' guard_none (Y0.move rfl) rfl ?_
      refine WL.y0' (guard_yes rfl rfl) (Y0.idxArr Try.underlying40 sz3 rfl rfl (by omega)) rfl ?_
      refine WL.y0' (guard_yes rfl rfl) (Y0.loadL 3 sc3 rfl rfl rfl) rfl ?_
      refine WL.caseY0 (guard_yes rfl rfl) (Y0.leq rfl rfl) rfl (fun h37 => ?_) (fun h37 => ?_)
      · skip
        refine WL.y0' guard_none (Y0.pickT rfl rfl) rfl ?_
        refine WL.y0' guard_none (Y0.move rfl) rfl ?_
        refine WL.y0' (guard_yes rfl rfl) (Y0.idxArr Try.underlying40 sz3 rfl rfl (by omega)) rfl ?_
        refine WL.y0' (guard_yes rfl rfl) (Y0.loadL 3 sc3 rfl rfl rfl) rfl ?_
        refine WL.caseY0 (guard_yes rfl rfl) (Y0.geq rfl rfl) rfl (fun h42 => ?_) (fun h42 => ?_)
        · skip
          refine WL.y0' guard_none (Y0.pickT rfl rfl) rfl ?_
          refine WL.y0' guard_none (Y0.move rfl) rfl ?_
          refine WL.y0' (guard_yes rfl rfl) (Y0.idxArr Try.underlying40 sz3 rfl rfl (by omega)) rfl ?_
          refine WL.y0' (guard_yes rfl rfl) (Y0.loadL 3 sc3 rfl rfl rfl) rfl ?_
          refine WL.caseY0 (guard_yes rfl rfl) (Y0.leq rfl rfl) rfl (fun h47 => ?_) (fun h47 => ?_)
          · skip
            refine WL.y0' guard_none (Y0.pickT rfl rfl) rfl ?_
            refine WL.y0' guard_none (Y0.assign rfl) rfl ?_
            refine WL.nil ?_
            refine WE.then ?_
            refine WC.seq ?_
            refine WC.seq ?_
            refine WC.region ?_
            refine WL.y0' guard_none (Y0.loadLA 2 ag27 rfl rfl rfl) rfl ?_
            refine WL.call0 guard_none rfl (YC.of E29 rfl) (mValid _) rfl (trivial) ?_
            refine WL.y0' guard_none (Y0.move rfl) rfl ?_
            refine WL.y0' guard_none (Y0.eq (Y0.neqB Try.underlying4 rfl rfl) (congrArg Value.bool (decide_eq_false (fun h => h rfl)))) rfl ?_
            refine WL.y0' guard_none (Y0.move rfl) rfl ?_
            refine WL.y0' (guard_yes rfl rfl) (Y0.move rfl) rfl ?_
            refine WL.y0' (guard_yes rfl rfl) (Y0.move rfl) rfl ?_
            refine WL.y0' (guard_yes rfl rfl) (Y0.idxArr Try.underlying40 sz3 rfl rfl (by omega)) rfl ?_
            refine WL.y0' (guard_yes rfl rfl) (Y0.loadL 3 sc3 rfl rfl rfl) rfl ?_
            refine WL.y0' (guard_yes rfl rfl) (Y0.idxArr Try.underlying40 sz3 rfl rfl (by omega)) rfl ?_
            refine WL.y0' (guard_yes rfl rfl) (Y0.loadL 3 sc3 rfl rfl rfl) rfl ?_
            first | refine WL.y0' (guard_yes rfl rfl) (Y0.addI rfl rfl (by omega)) rfl ?_ | refine WL.y0' (guard_yes rfl rfl) (Y0.add rfl rfl) rfl ?_
            refine WL.caseY0 (guard_yes rfl rfl) (Y0.gtr rfl rfl) rfl (fun h61 => ?_) (fun h61 => ?_)
            · skip
              refine WL.y0' (guard_yes rfl rfl) (Y0.pickT rfl rfl) rfl ?_
              refine WL.y0' guard_none (Y0.pickF rfl rfl) rfl ?_
              refine WL.nil ?_
              refine WE.then ?_
              refine WC.condT rfl ?_
              refine WC.seq ?_
              refine WC.region ?_
              refine WL.y0' guard_none (Y0.loadLA 2 ag27 rfl rfl rfl) rfl ?_
              refine WL.call0 guard_none rfl (YC.of E29 rfl) (mValid _) rfl (trivial) ?_
              refine WL.y0' guard_none (Y0.move rfl) rfl ?_
              refine WL.y0' guard_none (Y0.eq (Y0.eqlB Try.underlying4 rfl rfl) (congrArg Value.bool (decide_eq_true (rfl)))) rfl ?_
              refine WL.y0' guard_none (Y0.move rfl) rfl ?_
              refine WL.y0' (guard_yes rfl rfl) (Y0.move rfl) rfl ?_
              refine WL.y0' guard_none (Y0.pickT rfl rfl) rfl ?_
              refine WL.y0' guard_none (Y0.assign rfl) rfl ?_
              refine WL.nil ?_
              refine WE.then ?_
              refine WC.ret ?_
              refine WE.thenRet ?_
              refine WE.ret1 rfl rfl ?_
              rfl
            · skip
              refine WL.y0' (guard_yes rfl rfl) (Y0.pickT rfl rfl) rfl ?_
              refine WL.y0' guard_none (Y0.pickF rfl rfl) rfl ?_
              refine WL.nil ?_
              refine WE.then ?_
              refine WC.condF rfl ?_
              refine WC.skip ?_
              refine WE.then ?_
              refine WC.seq ?_
              refine WC.region ?_
              refine WL.y0' guard_none (Y0.idxArr Try.underlying40 sz3 rfl rfl (by omega)) rfl ?_
              refine WL.y0' guard_none (Y0.loadL 3 sc3 rfl rfl rfl) rfl ?_
              refine WL.y0' guard_none (Y0.idxArr Try.underlying40 sz3 rfl rfl (by omega)) rfl ?_
              refine WL.y0' guard_none (Y0.loadL 3 sc3 rfl rfl rfl) rfl ?_
              first
                | refine WL.call0 guard_none rfl (YC.of E30 rfl) (mAllBad a b (by omega)) rfl trivial ?_
                | (refine WL.call guard_none rfl (YC.of E30 rfl) (mAllOkI a b (by omega) (by omega) (by omega) (by omega)) rfl trivial (fun v76 G76 hle76 hp76 => ?_); obtain ⟨v, rfl, hsl⟩ := hp76)
              refine WL.y0' guard_none (Y0.move rfl) rfl ?_
              refine WL.y0' guard_none (Y0.extract rfl rfl) rfl ?_
              refine WL.y0' guard_none (Y0.extract rfl rfl) rfl ?_
              refine WL.y0' guard_none (Y0.assign rfl) rfl ?_
              refine WL.y0' guard_none (Y0.assign rfl) rfl ?_
              refine WL.nil ?_
              refine WE.then ?_
              refine WC.seq ?_
              refine WC.seq ?_
              refine WC.region ?_
              refine WL.y0' guard_none (Y0.move rfl) rfl ?_
              refine WL.nil ?_
              refine WE.then ?_
              refine WC.condT rfl ?_
              refine WC.seq ?_
              refine WC.region ?_
              refine WL.y0' guard_none (Y0.move rfl) rfl ?_
              refine WL.y0' guard_none (Y0.move rfl) rfl ?_
              refine WL.y0' (guard_yes rfl rfl) (Y0.move rfl) rfl ?_
              refine WL.y0' (guard_yes rfl rfl) (Y0.eq (Y0.eql rfl rfl) (congrArg Value.bool (decide_eq_true (rfl)))) rfl ?_
              refine WL.y0' guard_none (Y0.pickT rfl rfl) rfl ?_
              refine WL.y0' guard_none (Y0.assign rfl) rfl ?_
              refine WL.nil ?_
              refine WE.then ?_
              refine WC.ret ?_
              refine WE.thenRet ?_
              refine WE.ret1 rfl rfl ?_
              rfl
          · skip
            refine WL.y0' guard_none (Y0.pickT rfl rfl) rfl ?_
            refine WL.y0' guard_none (Y0.assign rfl) rfl ?_
            refine WL.nil ?_
            refine WE.then ?_
            refine WC.seq ?_
            refine WC.seq ?_
            refine WC.region ?_
            refine WL.y0' guard_none (Y0.loadLA 2 ag27 rfl rfl rfl) rfl ?_
            refine WL.call0 guard_none rfl (YC.of E29 rfl) (mValid _) rfl (trivial) ?_
            refine WL.y0' guard_none (Y0.move rfl) rfl ?_
            refine WL.y0' guard_none (Y0.eq (Y0.neqB Try.underlying4 rfl rfl) (congrArg Value.bool (decide_eq_false (fun h => h rfl)))) rfl ?_
            refine WL.y0' guard_none (Y0.move rfl) rfl ?_
            refine WL.y0' (guard_yes rfl rfl) (Y0.move rfl) rfl ?_
            refine WL.y0' (guard_yes rfl rfl) (Y0.move rfl) rfl ?_
            refine WL.skip (guard_noT rfl rfl) rfl ?_
            refine WL.skip (guard_noT rfl rfl) rfl ?_
            refine WL.skip (guard_noT rfl rfl) rfl ?_
            refine WL.skip (guard_noT rfl rfl) rfl ?_
            refine WL.skip (guard_noT rfl rfl) rfl ?_
            refine WL.skip (guard_noT rfl rfl) rfl ?_
            refine WL.y0' (guard_yes rfl rfl) (Y0.pickF rfl rfl) rfl ?_
            refine WL.y0' guard_none (Y0.pickF rfl rfl) rfl ?_
            refine WL.nil ?_
            refine WE.then ?_
            refine WC.condF rfl ?_
            refine WC.skip ?_
            refine WE.then ?_
            refine WC.seq ?_
            refine WC.region ?_
            refine WL.y0' guard_none (Y0.idxArr Try.underlying40 sz3 rfl rfl (by omega)) rfl ?_
            refine WL.y0' guard_none (Y0.loadL 3 sc3 rfl rfl rfl) rfl ?_
            refine WL.y0' guard_none (Y0.idxArr Try.underlying40 sz3 rfl rfl (by omega)) rfl ?_
            refine WL.y0' guard_none (Y0.loadL 3 sc3 rfl rfl rfl) rfl ?_
            first
              | refine WL.call0 guard_none rfl (YC.of E30 rfl) (mAllBad a b (by omega)) rfl trivial ?_
              | (refine WL.call guard_none rfl (YC.of E30 rfl) (mAllOkI a b (by omega) (by omega) (by omega) (by omega)) rfl trivial (fun v76 G76 hle76 hp76 => ?_); obtain ⟨v, rfl, hsl⟩ := hp76)
            refine WL.y0' guard_none (Y0.move rfl) rfl ?_
            refine WL.y0' guard_none (Y0.extract rfl rfl) rfl ?_
            refine WL.y0' guard_none (Y0.extract rfl rfl) rfl ?_
            refine WL.y0' guard_none (Y0.assign rfl) rfl ?_
            refine WL.y0' guard_none (Y0.assign rfl) rfl ?_
            refine WL.nil ?_
            refine WE.then ?_
            refine WC.seq ?_
            refine WC.seq ?_
            refine WC.region ?_
            refine WL.y0' guard_none (Y0.move rfl) rfl ?_
            refine WL.nil ?_
            refine WE.then ?_
            refine WC.condF rfl ?_
            refine WC.skip ?_
            refine WE.then ?_
            refine WC.seq ?_
            refine WC.region ?_
            refine WL.y0' guard_none (Y0.move rfl) rfl ?_
            refine WL.y0' guard_none (Y0.move rfl) rfl ?_
            refine WL.y0' (guard_yes rfl rfl) (Y0.move rfl) rfl ?_
            refine WL.y0' (guard_yes rfl rfl) (Y0.eq (Y0.eql rfl rfl) (congrArg Value.bool (decide_eq_true (rfl)))) rfl ?_
            refine WL.y0' guard_none (Y0.pickT rfl rfl) rfl ?_
            refine WL.y0' guard_none (Y0.move rfl) rfl ?_
            refine WL.y0' (guard_yes rfl rfl) (Y0.move rfl) rfl ?_
            refine WL.y0' (guard_yes rfl rfl) (Y0.lenSl Try.underlying42 rfl) rfl ?_
            refine WL.y0' (guard_yes rfl rfl) (Y0.eq (Y0.eql rfl rfl) (congrArg Value.bool (decide_eq_true (rfl)))) rfl ?_
            refine WL.y0' guard_none (Y0.pickT rfl rfl) rfl ?_
            refine WL.y0' guard_none (Y0.assign rfl) rfl ?_
            refine WL.nil ?_
            refine WE.then ?_
            refine WC.ret ?_
            refine WE.ret1 rfl rfl ?_
            rfl
        · skip
          refine WL.y0' guard_none (Y0.pickT rfl rfl) rfl ?_
          refine WL.y0' guard_none (Y0.move rfl) rfl ?_
          refine WL.skip (guard_noT rfl rfl) rfl ?_
          refine WL.skip (guard_noT rfl rfl) rfl ?_
          refine WL.skip (guard_noT rfl rfl) rfl ?_
          refine WL.y0' guard_none (Y0.pickF rfl rfl) rfl ?_
          refine WL.y0' guard_none (Y0.assign rfl) rfl ?_
          refine WL.nil ?_
          refine WE.then ?_
          refine WC.seq ?_
          refine WC.seq ?_
          refine WC.region ?_
          refine WL.y0' guard_none (Y0.loadLA 2 ag27 rfl rfl rfl) rfl ?_
          refine WL.call0 guard_none rfl (YC.of E29 rfl) (mValid _) rfl (trivial) ?_
          refine WL.y0' guard_none (Y0.move rfl) rfl ?_
          refine WL.y0' guard_none (Y0.eq (Y0.neqB Try.underlying4 rfl rfl) (congrArg Value.bool (decide_eq_false (fun h => h rfl)))) rfl ?_
          refine WL.y0' guard_none (Y0.move rfl) rfl ?_
          refine WL.y0' (guard_yes rfl rfl) (Y0.move rfl) rfl ?_
          refine WL.y0' (guard_yes rfl rfl) (Y0.move rfl) rfl ?_
          refine WL.skip (guard_noT rfl rfl) rfl ?_
          refine WL.skip (guard_noT rfl rfl) rfl ?_
          refine WL.skip (guard_noT rfl rfl) rfl ?_
          refine WL.skip (guard_noT rfl rfl) rfl ?_
          refine WL.skip (guard_noT rfl rfl) rfl ?_
          refine WL.skip (guard_noT rfl rfl) rfl ?_
          refine WL.y0' (guard_yes rfl rfl) (Y0.pickF rfl rfl) rfl ?_
          refine WL.y0' guard_none (Y0.pickF rfl rfl) rfl ?_
          refine WL.nil ?_
          refine WE.then ?_
          refine WC.condF rfl ?_
          refine WC.skip ?_
          refine WE.then ?_
          refine WC.seq ?_
          refine WC.region ?_
          refine WL.y0' guard_none (Y0.idxArr Try.underlying40 sz3 rfl rfl (by omega)) rfl ?_
          refine WL.y0' guard_none (Y0.loadL 3 sc3 rfl rfl rfl) rfl ?_
          refine WL.y0' guard_none (Y0.idxArr Try.underlying40 sz3 rfl rfl (by omega)) rfl ?_
          refine WL.y0' guard_none (Y0.loadL 3 sc3 rfl rfl rfl) rfl ?_
          first
            | refine WL.call0 guard_none rfl (YC.of E30 rfl) (mAllBad a b (by omega)) rfl trivial ?_
            | (refine WL.call guard_none rfl (YC.of E30 rfl) (mAllOkI a b (by omega) (by omega) (by omega) (by omega)) rfl trivial (fun v76 G76 hle76 hp76 => ?_); obtain ⟨v, rfl, hsl⟩ := hp76)
          refine WL.y0' guard_none (Y0.move rfl) rfl ?_
          refine WL.y0' guard_none (Y0.extract rfl rfl) rfl ?_
          refine WL.y0' guard_none (Y0.extract rfl rfl) rfl ?_
          refine WL.y0' guard_none (Y0.assign rfl) rfl ?_
          refine WL.y0' guard_none (Y0.assign rfl) rfl ?_
          refine WL.nil ?_
          refine WE.then ?_
          refine WC.seq ?_
          refine WC.seq ?_
          refine WC.region ?_
          refine WL.y0' guard_none (Y0.move rfl) rfl ?_
          refine WL.nil ?_
          refine WE.then ?_
          refine WC.condF rfl ?_
          refine WC.skip ?_
          refine WE.then ?_
          refine WC.seq ?_
          refine WC.region ?_
          refine WL.y0' guard_none (Y0.move rfl) rfl ?_
          refine WL.y0' guard_none (Y0.move rfl) rfl ?_
          refine WL.y0' (guard_yes rfl rfl) (Y0.move rfl) rfl ?_
          refine WL.y0' (guard_yes rfl rfl) (Y0.eq (Y0.eql rfl rfl) (congrArg Value.bool (decide_eq_true (rfl)))) rfl ?_
          refine WL.y0' guard_none (Y0.pickT rfl rfl) rfl ?_
          refine WL.y0' guard_none (Y0.move rfl) rfl ?_
          refine WL.y0' (guard_yes rfl rfl) (Y0.move rfl) rfl ?_
          refine WL.y0' (guard_yes rfl rfl) (Y0.lenSl Try.underlying42 rfl) rfl ?_
          refine WL.y0' (guard_yes rfl rfl) (Y0.eq (Y0.eql rfl rfl) (congrArg Value.bool (decide_eq_true (rfl)))) rfl ?_
          refine WL.y0' guard_none (Y0.pickT rfl rfl) rfl ?_
          refine WL.y0' guard_none (Y0.assign rfl) rfl ?_
          refine WL.nil ?_
          refine WE.then ?_
          refine WC.ret ?_
          refine WE.ret1 rfl rfl ?_
          rfl
      · skip
        refine WL.y0' guard_none (Y0.pickT rfl rfl) rfl ?_
        refine WL.y0' guard_none (Y0.move rfl) rfl ?_
        refine WL.skip (guard_noT rfl rfl) rfl ?_
        refine WL.skip (guard_noT rfl rfl) rfl ?_
        refine WL.skip (guard_noT rfl rfl) rfl ?_
        refine WL.y0' guard_none (Y0.pickF rfl rfl) rfl ?_
        refine WL.y0' guard_none (Y0.move rfl) rfl ?_
        refine WL.skip (guard_noT rfl rfl) rfl ?_
        refine WL.skip (guard_noT rfl rfl) rfl ?_
        refine WL.skip (guard_noT rfl rfl) rfl ?_
        refine WL.y0' guard_none (Y0.pickF rfl rfl) rfl ?_
        refine WL.y0' guard_none (Y0.assign rfl) rfl ?_
        refine WL.nil ?_
        refine WE.then ?_
        refine WC.seq ?_
        refine WC.seq ?_
        refine WC.region ?_
        refine WL.y0' guard_none (Y0.loadLA 2 ag27 rfl rfl rfl) rfl ?_
        refine WL.call0 guard_none rfl (YC.of E29 rfl) (mValid _) rfl (trivial) ?_
        refine WL.y0' guard_none (Y0.move rfl) rfl ?_
        refine WL.y0' guard_none (Y0.eq (Y0.neqB Try.underlying4 rfl rfl) (congrArg Value.bool (decide_eq_false (fun h => h rfl)))) rfl ?_
        refine WL.y0' guard_none (Y0.move rfl) rfl ?_
        refine WL.y0' (guard_yes rfl rfl) (Y0.move rfl) rfl ?_
        refine WL.y0' (guard_yes rfl rfl) (Y0.move rfl) rfl ?_
        refine WL.skip (guard_noT rfl rfl) rfl ?_
        refine WL.skip (guard_noT rfl rfl) rfl ?_
        refine WL.skip (guard_noT rfl rfl) rfl ?_
        refine WL.skip (guard_noT rfl rfl) rfl ?_
        refine WL.skip (guard_noT rfl rfl) rfl ?_
        refine WL.skip (guard_noT rfl rfl) rfl ?_
        refine WL.y0' (guard_yes rfl rfl) (Y0.pickF rfl rfl) rfl ?_
        refine WL.y0' guard_none (Y0.pickF rfl rfl) rfl ?_
        refine WL.nil ?_
        refine WE.then ?_
        refine WC.condF rfl ?_
        refine WC.skip ?_
        refine WE.then ?_
        refine WC.seq ?_
        refine WC.region ?_
        refine WL.y0' guard_none (Y0.idxArr Try.underlying40 sz3 rfl rfl (by omega)) rfl ?_
        refine WL.y0' guard_none (Y0.loadL 3 sc3 rfl rfl rfl) rfl ?_
        refine WL.y0' guard_none (Y0.idxArr Try.underlying40 sz3 rfl rfl (by omega)) rfl ?_
        refine WL.y0' guard_none (Y0.loadL 3 sc3 rfl rfl rfl) rfl ?_
        first
          | refine WL.call0 guard_none rfl (YC.of E30 rfl) (mAllBad a b (by omega)) rfl trivial ?_
          | (refine WL.call guard_none rfl (YC.of E30 rfl) (mAllOkI a b (by omega) (by omega) (by omega) (by omega)) rfl trivial (fun v76 G76 hle76 hp76 => ?_); obtain ⟨v, rfl, hsl⟩ := hp76)
        refine WL.y0' guard_none (Y0.move rfl) rfl ?_
        refine WL.y0' guard_none (Y0.extract rfl rfl) rfl ?_
        refine WL.y0' guard_none (Y0.extract rfl rfl) rfl ?_
        refine WL.y0' guard_none (Y0.assign rfl) rfl ?_
        refine WL.y0' guard_none (Y0.assign rfl) rfl ?_
        refine WL.nil ?_
        refine WE.then ?_
        refine WC.seq ?_
        refine WC.seq ?_
        refine WC.region ?_
        refine WL.y0' guard_none (Y0.move rfl) rfl ?_
        refine WL.nil ?_
        refine WE.then ?_
        refine WC.condF rfl ?_
        refine WC.skip ?_
        refine WE.then ?_
        refine WC.seq ?_
        refine WC.region ?_
        refine WL.y0' guard_none (Y0.move rfl) rfl ?_
        refine WL.y0' guard_none (Y0.move rfl) rfl ?_
        refine WL.y0' (guard_yes rfl rfl) (Y0.move rfl) rfl ?_
        refine WL.y0' (guard_yes rfl rfl) (Y0.eq (Y0.eql rfl rfl) (congrArg Value.bool (decide_eq_true (rfl)))) rfl ?_
        refine WL.y0' guard_none (Y0.pickT rfl rfl) rfl ?_
        refine WL.y0' guard_none (Y0.move rfl) rfl ?_
        refine WL.y0' (guard_yes rfl rfl) (Y0.move rfl) rfl ?_
        refine WL.y0' (guard_yes rfl rfl) (Y0.lenSl Try.underlying42 rfl) rfl ?_
        refine WL.y0' (guard_yes rfl rfl) (Y0.eq (Y0.eql rfl rfl) (congrArg Value.bool (decide_eq_true (rfl)))) rfl ?_
        refine WL.y0' guard_none (Y0.pickT rfl rfl) rfl ?_
        refine WL.y0' guard_none (Y0.assign rfl) rfl ?_
        refine WL.nil ?_
        refine WE.then ?_
        refine WC.ret ?_
        refine WE.ret1 rfl rfl ?_
        rfl
    · skip
      refine WL.y0' guard_none (Y0.move rfl) rfl ?_
      refine WL.skip (guard_noT rfl rfl) rfl ?_
      refine WL.skip (guard_noT rfl rfl) rfl ?_
      refine WL.skip (guard_noT rfl rfl) rfl ?_
      refine WL.y0' guard_none (Y0.pickF rfl rfl) rfl ?_
      refine WL.y0' guard_none (Y0.move rfl) rfl ?_
      refine WL.skip (guard_noT rfl rfl) rfl ?_
      refine WL.skip (guard_noT rfl rfl) rfl ?_
      refine WL.skip (guard_noT rfl rfl) rfl ?_
      refine WL.y0' guard_none (Y0.pickF rfl rfl) rfl ?_
      refine WL.y0' guard_none (Y0.move rfl) rfl ?_
      refine WL.skip (guard_noT rfl rfl) rfl ?_
      refine WL.skip (guard_noT rfl rfl) rfl ?_
      refine WL.skip (guard_noT rfl rfl) rfl ?_
      refine WL.y0' guard_none (Y0.pickF rfl rfl) rfl ?_
      refine WL.y0' guard_none (Y0.assign rfl) rfl ?_
      refine WL.nil ?_
      refine WE.then ?_
      refine WC.seq ?_
      refine WC.seq ?_
      refine WC.region ?_
      refine WL.y0' guard_none (Y0.loadLA 2 ag27 rfl rfl rfl) rfl ?_
      refine WL.call0 guard_none rfl (YC.of E29 rfl) (mValid _) rfl (trivial) ?_
      refine WL.y0' guard_none (Y0.move rfl) rfl ?_
      refine WL.y0' guard_none (Y0.eq (Y0.neqB Try.underlying4 rfl rfl) (congrArg Value.bool (decide_eq_false (fun h => h rfl)))) rfl ?_
      refine WL.y0' guard_none (Y0.move rfl) rfl ?_
      refine WL.y0' (guard_yes rfl rfl) (Y0.move rfl) rfl ?_
      refine WL.y0' (guard_yes rfl rfl) (Y0.move rfl) rfl ?_
      refine WL.skip (guard_noT rfl rfl) rfl ?_
      refine WL.skip (guard_noT rfl rfl) rfl ?_
      refine WL.skip (guard_noT rfl rfl) rfl ?_
      refine WL.skip (guard_noT rfl rfl) rfl ?_
      refine WL.skip (guard_noT rfl rfl) rfl ?_
      refine WL.skip (guard_noT rfl rfl) rfl ?_
      refine WL.y0' (guard_yes rfl rfl) (Y0.pickF rfl rfl) rfl ?_
      refine WL.y0' guard_none (Y0.pickF rfl rfl) rfl ?_
      refine WL.nil ?_
      refine WE.then ?_
      refine WC.condF rfl ?_
      refine WC.skip ?_
      refine WE.then ?_
      refine WC.seq ?_
      refine WC.region ?_
      refine WL.y0' guard_none (Y0.idxArr Try.underlying40 sz3 rfl rfl (by omega)) rfl ?_
      refine WL.y0' guard_none (Y0.loadL 3 sc3 rfl rfl rfl) rfl ?_
      refine WL.y0' guard_none (Y0.idxArr Try.underlying40 sz3 rfl rfl (by omega)) rfl ?_
      refine WL.y0' guard_none (Y0.loadL 3 sc3 rfl rfl rfl) rfl ?_
      first
        | refine WL.call0 guard_none rfl (YC.of E30 rfl) (mAllBad a b (by omega)) rfl trivial ?_
        | (refine WL.call guard_none rfl (YC.of E30 rfl) (mAllOkI a b (by omega) (by omega) (by omega) (by omega)) rfl trivial (fun v76 G76 hle76 hp76 => ?_); obtain ⟨v, rfl, hsl⟩ := hp76)
      refine WL.y0' guard_none (Y0.move rfl) rfl ?_
      refine WL.y0' guard_none (Y0.extract rfl rfl) rfl ?_
      refine WL.y0' guard_none (Y0.extract rfl rfl) rfl ?_
      refine WL.y0' guard_none (Y0.assign rfl) rfl ?_
      refine WL.y0' guard_none (Y0.assign rfl) rfl ?_
      refine WL.nil ?_
      refine WE.then ?_
      refine WC.seq ?_
      refine WC.seq ?_
      refine WC.region ?_
      refine WL.y0' guard_none (Y0.move rfl) rfl ?_
      refine WL.nil ?_
      refine WE.then ?_
      refine WC.condF rfl ?_
      refine WC.skip ?_
      refine WE.then ?_
      refine WC.seq ?_
      refine WC.region ?_
      refine WL.y0' guard_none (Y0.move rfl) rfl ?_
      refine WL.y0' guard_none (Y0.move rfl) rfl ?_
      refine WL.y0' (guard_yes rfl rfl) (Y0.move rfl) rfl ?_
      refine WL.y0' (guard_yes rfl rfl) (Y0.eq (Y0.eql rfl rfl) (congrArg Value.bool (decide_eq_true (rfl)))) rfl ?_
      refine WL.y0' guard_none (Y0.pickT rfl rfl) rfl ?_
      refine WL.y0' guard_none (Y0.move rfl) rfl ?_
      refine WL.y0' (guard_yes rfl rfl) (Y0.move rfl) rfl ?_
      refine WL.y0' (guard_yes rfl rfl) (Y0.lenSl Try.underlying42 rfl) rfl ?_
      refine WL.y0' (guard_yes rfl rfl) (Y0.eq (Y0.eql rfl rfl) (congrArg Value.bool (decide_eq_true (rfl)))) rfl ?_
      refine WL.y0' guard_none (Y0.pickT rfl rfl) rfl ?_
      refine WL.y0' guard_none (Y0.assign rfl) rfl ?_
      refine WL.nil ?_
      refine WE.then ?_
      refine WC.ret ?_
      refine WE.ret1 rfl rfl ?_
      rfl

end Go.Proofs.Ytdpmpefjplfgbaa
