/- The law on the list of all monomials, as a contract: it returns true. The conditions stand in each statement. -/
import Derived.Test.YtdpmpefjplfgbaaMg
import Derived.Test.YtdpmpefjplfgbaaElq
namespace Go.Proofs.Ytdpmpefjplfgbaa
open Go Go.EL Go.RowKit

theorem cMonomialAll (n d vr dg0 dg : Nat) (hn255 : n ≤ 255) (hd255 : d ≤ 255) (hvr : n % 9 = vr) (hdg0 : d % 13 = dg0) (hdg : (if 4 < vr then dg0 % 5 else dg0) = dg) (y : M) (hy : Ok y) : Ctr Try.prog 10 #[.int .u8 (n : Int), .int .u8 (d : Int), .agg (vecU y)] (fun G => True) (fun G r => r = .bool true) := by
  refine Ctr.enter (args := [_, _, _]) (N := 159) Try.func10 rfl rfl rfl (fun w0 G0 hL0 hpre => ?_)
  have hvr8 : vr ≤ 8 := by omega
  have hdg12 : dg ≤ 12 := by split at hdg <;> omega
  have hck := chk hvr8 hdg12 (fun h => by rw [if_pos h] at hdg; omega)
  refine WC.seq ?_
  refine WC.region ?_
  refine WL.box 5 guard_none rfl rfl (fun b5 => ?_)
  refine WL.y0' guard_none (Y0.assign rfl) rfl ?_
  refine WL.nil ?_
  refine WE.then ?_
  refine WC.seq ?_
  refine WC.region ?_
  refine WL.call0 guard_none rfl (YC.of E11 rfl) (lsanity) rfl (trivial) ?_
  refine WL.y0' guard_none (Y0.assign rfl) rfl ?_
  refine WL.nil ?_
  refine WE.then ?_
  refine WC.seq ?_
  refine WC.seq ?_
  refine WC.region ?_
  refine WL.y0' guard_none (Y0.move rfl) rfl ?_
  refine WL.y0' guard_none (Y0.not rfl) rfl ?_
  refine WL.nil ?_
  refine WE.then ?_
  refine WC.condF rfl ?_
  refine WC.skip ?_
  refine WE.then ?_
  refine WC.seq ?_
  refine WC.region ?_
  refine WL.y0' guard_none (Y0.move rfl) rfl ?_
  refine WL.y0' guard_none (Y0.eq (Y0.rem rfl rfl (by decide)) (congrArg (Value.int .u8) (show Int.tmod (n : Int) 9 = (vr : Int) from by rw [← hvr]; exact tmod_nat n 9))) rfl ?_
  first | refine WL.y0' guard_none (Y0.convI Try.underlying5 Try.underlying3 rfl (by omega)) rfl ?_ | refine WL.y0' guard_none (Y0.conv Try.underlying5 Try.underlying3 rfl) rfl ?_
  refine WL.y0' guard_none (Y0.assign rfl) rfl ?_
  refine WL.nil ?_
  refine WE.then ?_
  refine WC.seqH2 (fun (x : Unit) => [(5, .pointer (some ⟨b5, 0, none⟩)), (7, .bool true), (8, .int .i64 (vr : Int)), (9, .int .i64 (dg : Int))]) (fun (x : Unit) => True) (fun (x : Unit) => St w0 G0 G0 [(5, b5, .cells (vecU y) 24 (0, 0))]) ?_ ?_
  · skip
    refine WC.region ?_
    refine WL.y0' guard_none (Y0.move rfl) rfl ?_
    refine WL.y0' guard_none (Y0.eq (Y0.rem rfl rfl (by decide)) (congrArg (Value.int .u8) (show Int.tmod (d : Int) 13 = (dg0 : Int) from by rw [← hdg0]; exact tmod_nat d 13))) rfl ?_
    first | refine WL.y0' guard_none (Y0.convI Try.underlying5 Try.underlying3 rfl (by omega)) rfl ?_ | refine WL.y0' guard_none (Y0.conv Try.underlying5 Try.underlying3 rfl) rfl ?_
    refine WL.y0' guard_none (Y0.assign rfl) rfl ?_
    refine WL.nil ?_
    refine WE.then ?_
    refine WC.seq ?_
    refine WC.region ?_
    refine WL.y0' guard_none (Y0.move rfl) rfl ?_
    refine WL.caseY0 guard_none (Y0.gtr rfl rfl) rfl (fun h30 => ?_) (fun h30 => ?_)
    · skip
      refine WL.nil ?_
      refine WE.then ?_
      refine WC.condT rfl ?_
      refine WC.region ?_
      refine WL.y0' guard_none (Y0.move rfl) rfl ?_
      refine WL.y0' guard_none (Y0.eq (Y0.rem rfl rfl (by decide)) (congrArg (Value.int .i64) (show Int.tmod (dg0 : Int) 5 = (dg : Int) from by rw [← hdg, if_pos (by omega)]; exact tmod_nat dg0 5))) rfl ?_
      refine WL.y0' guard_none (Y0.assign rfl) rfl ?_
      refine WL.nil ?_
      refine WE.midH () ?_ ?_ ?_
      · trivial
      · exact Fr.sub_cons rfl (Fr.sub_cons rfl (Fr.sub_cons rfl (Fr.sub_cons rfl (Fr.sub_nil _))))
      · exact St.conseqL (Lo.sub_cons (rfl) (Lo.sub_nil _))
    · skip
      refine WL.nil ?_
      refine WE.then ?_
      refine WC.condF rfl ?_
      refine WC.skip ?_
      refine WE.midH () ?_ ?_ ?_
      · trivial
      · exact Fr.sub_cons rfl (Fr.sub_cons rfl (Fr.sub_cons rfl (Fr.sub_cons (congrArg (fun q : Nat => some (Value.int .i64 (q : Int))) (by rw [← hdg, if_neg (by omega)])) (Fr.sub_nil _))))
      · exact St.conseqL (Lo.sub_cons (rfl) (Lo.sub_nil _))
  rintro x hx
  skip
  refine WC.seq ?_
  refine WC.region ?_
  refine WL.y0' guard_none (Y0.move rfl) rfl ?_
  refine WL.y0' guard_none (Y0.move rfl) rfl ?_
  refine WL.call guard_none rfl (YC.of E30 rfl) (mAllOk vr dg hvr8 hdg12) rfl (trivial) (fun v36 G36 hle36 hp36 => ?_)
  obtain ⟨v36, rfl, hsl⟩ := hp36
  obtain ⟨p, cap, bb, off, rfl, hmax, hp1, hp2, hcell⟩ := hsl
  refine WL.y0' guard_none (Y0.move rfl) rfl ?_
  refine WL.y0' guard_none (Y0.extract rfl rfl) rfl ?_
  refine WL.y0' guard_none (Y0.extract rfl rfl) rfl ?_
  refine WL.y0' guard_none (Y0.assign rfl) rfl ?_
  refine WL.y0' guard_none (Y0.assign rfl) rfl ?_
  refine WL.nil ?_
  refine WE.then ?_
  refine WC.seq ?_
  refine WC.region ?_
  refine WL.y0' guard_none (Y0.assign rfl) rfl ?_
  refine WL.nil ?_
  refine WE.then ?_
  refine WC.seqH2 (fun (x : Unit) => [(5, .pointer (some ⟨b5, 0, none⟩)), (7, .bool true), (8, .int .i64 (vr : Int)), (9, .int .i64 (dg : Int)), (10, .slice p (allM vr dg).length cap), (11, .int .i64 0), (12, .int .i64 ((manyN vr dg : Nat) : Int))]) (fun (x : Unit) => True) (fun (x : Unit) => St w0 G0 G36 [(5, b5, .cells (vecU y) 24 (0, 0))]) ?_ ?_
  · skip
    refine WC.seq ?_
    refine WC.region ?_
    refine WL.y0' guard_none (Y0.assign rfl) rfl ?_
    refine WL.nil ?_
    refine WE.then ?_
    refine WC.block ?_
    refine WC.loopH (fun (x : Nat) => [(5, .pointer (some ⟨b5, 0, none⟩)), (7, .bool true), (8, .int .i64 (vr : Int)), (9, .int .i64 (dg : Int)), (10, .slice p (allM vr dg).length cap), (11, .int .i64 0), (12, .int .i64 ((manyTo dg x : Nat) : Int)), (13, .int .i64 (x : Int))]) (fun (x : Nat) => 1 ≤ x ∧ (x ≤ vr ∨ x = 1)) (fun (x : Nat) => St w0 G0 G36 [(5, b5, .cells (vecU y) 24 (0, 0))]) (fun (x : Nat) => vr + 1 - x) 1 ?_ ?_ ?_ ?_
    · exact Fr.sub_cons rfl (Fr.sub_cons rfl (Fr.sub_cons rfl (Fr.sub_cons rfl (Fr.sub_cons rfl (Fr.sub_cons rfl (Fr.sub_cons rfl (Fr.sub_cons rfl (Fr.sub_nil _))))))))
    · exact ⟨by omega, .inr rfl⟩
    · exact St.conseqL (Lo.sub_cons (rfl) (Lo.sub_nil _))
    rintro x hx0
    obtain ⟨hx1, hx2⟩ := hx0
    refine WC.seq ?_
    refine WC.seq ?_
    refine WC.region ?_
    refine WL.y0' guard_none (Y0.move rfl) rfl ?_
    refine WL.y0' guard_none (Y0.move rfl) rfl ?_
    refine WL.caseY0 guard_none (Y0.lss rfl rfl) rfl (fun h41 => ?_) (fun h41 => ?_)
    · skip
      refine WL.nil ?_
      refine WE.then ?_
      refine WC.condT rfl ?_
      refine WC.skip ?_
      refine WE.then ?_
      refine WC.seq ?_
      refine WC.block ?_
      refine WC.region ?_
      refine WL.y0' guard_none (Y0.move rfl) rfl ?_
      refine WL.y0' guard_none (Y0.move rfl) rfl ?_
      refine WL.y0' guard_none (Y0.move rfl) rfl ?_
      first | refine WL.y0' guard_none (Y0.addI rfl rfl (by omega)) rfl ?_ | refine WL.y0' guard_none (Y0.add rfl rfl) rfl ?_
      refine WL.y0' guard_none (Y0.mulI rfl rfl (many_bd (many_le hdg12 (by omega)) hdg12 (by omega))) rfl ?_
      refine WL.y0' guard_none (Y0.move rfl) rfl ?_
      refine WL.y0' guard_none (Y0.eq (Y0.quo rfl rfl (by omega)) (congrArg (Value.int .i64) (many_quo (many_le hdg12 (by omega)) hdg12 (by omega)))) rfl ?_
      refine WL.y0' guard_none (Y0.assign rfl) rfl ?_
      refine WL.nil ?_
      refine WE.inBlock ?_
      refine WE.then ?_
      refine WC.region ?_
      refine WL.y0' guard_none (Y0.move rfl) rfl ?_
      first | refine WL.y0' guard_none (Y0.addI rfl rfl (by omega)) rfl ?_ | refine WL.y0' guard_none (Y0.add rfl rfl) rfl ?_
      refine WL.y0' guard_none (Y0.assign rfl) rfl ?_
      refine WL.nil ?_
      refine WE.backH (x + 1) ?_ ?_ ?_ ?_
      · exact ⟨by omega, by omega⟩
      · exact Fr.sub_cons rfl (Fr.sub_cons rfl (Fr.sub_cons rfl (Fr.sub_cons rfl (Fr.sub_cons rfl (Fr.sub_cons rfl (Fr.sub_cons (congrArg (fun q : Nat => some (Value.int .i64 (q : Int))) (manyTo_step dg hx1).symm) (Fr.sub_cons rfl (Fr.sub_nil _))))))))
      · exact St.conseqL (Lo.sub_cons (rfl) (Lo.sub_nil _))
      · omega
    · skip
      have hxv : manyTo dg x = manyTo dg vr := by
        rcases hx2 with h | h
        · congr 1; omega
        · subst h
          have : vr = 0 ∨ vr = 1 := by omega
          rcases this with h | h <;> rw [h] <;> rfl
      refine WL.nil ?_
      refine WE.then ?_
      refine WC.condF rfl ?_
      refine WC.exit ?_
      refine WE.thenExit ?_
      refine WE.thenExit ?_
      refine WE.exitHere ?_
      refine WE.then ?_
      refine WC.seq ?_
      refine WC.region ?_
      refine WL.y0' guard_none (Y0.move rfl) rfl ?_
      refine WL.caseY0 guard_none (Y0.eql rfl rfl) rfl (fun h52 => ?_) (fun h52 => ?_)
      · skip
        refine WL.y0' guard_none (Y0.move rfl) rfl ?_
        refine WL.y0' (guard_yes rfl rfl) (Y0.move rfl) rfl ?_
        refine WL.caseY0 (guard_yes rfl rfl) (Y0.gtr rfl rfl) rfl (fun h55 => ?_) (fun h55 => ?_)
        · skip
          refine WL.y0' guard_none (Y0.pickT rfl rfl) rfl ?_
          refine WL.nil ?_
          refine WE.then ?_
          refine WC.condT rfl ?_
          refine WC.region ?_
          refine WL.y0' guard_none (Y0.assign rfl) rfl ?_
          refine WL.nil ?_
          refine WE.midH () ?_ ?_ ?_
          · trivial
          · exact Fr.sub_cons rfl (Fr.sub_cons rfl (Fr.sub_cons rfl (Fr.sub_cons rfl (Fr.sub_cons rfl (Fr.sub_cons rfl (Fr.sub_cons (congrArg (fun z : Int => some (Value.int .i64 z)) (by rw [manyN, if_pos ⟨by omega, by omega⟩]; rfl)) (Fr.sub_nil _)))))))
          · exact St.conseqL (Lo.sub_cons (rfl) (Lo.sub_nil _))
        · skip
          refine WL.y0' guard_none (Y0.pickT rfl rfl) rfl ?_
          refine WL.nil ?_
          refine WE.then ?_
          refine WC.condF rfl ?_
          refine WC.skip ?_
          refine WE.midH () ?_ ?_ ?_
          · trivial
          · exact Fr.sub_cons rfl (Fr.sub_cons rfl (Fr.sub_cons rfl (Fr.sub_cons rfl (Fr.sub_cons rfl (Fr.sub_cons rfl (Fr.sub_cons (congrArg (fun q : Nat => some (Value.int .i64 (q : Int))) (by rw [manyN, if_neg (fun hh => by omega)]; exact hxv)) (Fr.sub_nil _)))))))
          · exact St.conseqL (Lo.sub_cons (rfl) (Lo.sub_nil _))
      · skip
        refine WL.y0' guard_none (Y0.move rfl) rfl ?_
        refine WL.skip (guard_noT rfl rfl) rfl ?_
        refine WL.skip (guard_noT rfl rfl) rfl ?_
        refine WL.y0' guard_none (Y0.pickF rfl rfl) rfl ?_
        refine WL.nil ?_
        refine WE.then ?_
        refine WC.condF rfl ?_
        refine WC.skip ?_
        refine WE.midH () ?_ ?_ ?_
        · trivial
        · exact Fr.sub_cons rfl (Fr.sub_cons rfl (Fr.sub_cons rfl (Fr.sub_cons rfl (Fr.sub_cons rfl (Fr.sub_cons rfl (Fr.sub_cons (congrArg (fun q : Nat => some (Value.int .i64 (q : Int))) (by rw [manyN, if_neg (fun hh => by omega)]; exact hxv)) (Fr.sub_nil _)))))))
        · exact St.conseqL (Lo.sub_cons (rfl) (Lo.sub_nil _))
  rintro x hx
  skip
  refine WC.seq ?_
  refine WC.seq ?_
  refine WC.region ?_
  refine WL.y0' guard_none (Y0.move rfl) rfl ?_
  refine WL.y0' guard_none (Y0.eq (Y0.neq rfl rfl) (congrArg Value.bool (decide_eq_false (fun h => h rfl)))) rfl ?_
  refine WL.y0' guard_none (Y0.move rfl) rfl ?_
  refine WL.y0' (guard_yes rfl rfl) (Y0.move rfl) rfl ?_
  refine WL.y0' (guard_yes rfl rfl) (Y0.lenSl Try.underlying42 rfl) rfl ?_
  refine WL.y0' (guard_yes rfl rfl) (Y0.move rfl) rfl ?_
  refine WL.y0' (guard_yes rfl rfl) (Y0.eq (Y0.neq rfl rfl) (congrArg Value.bool (decide_eq_false (fun h => h (by rw [chk_len hck]))))) rfl ?_
  refine WL.y0' guard_none (Y0.pickF rfl rfl) rfl ?_
  refine WL.nil ?_
  refine WE.then ?_
  refine WC.condF rfl ?_
  refine WC.skip ?_
  refine WE.then ?_
  refine WC.seq ?_
  refine WC.region ?_
  refine WL.y0' guard_none (Y0.buildM0 bz27) rfl ?_
  refine WL.alloc 14 guard_none z27 rfl (fun b14 => ?_)
  refine WL.storeLA 14 guard_none sz27 rfl rfl rfl rfl rfl rfl ?_
  refine WL.nil ?_
  refine WE.then ?_
  refine WC.seq ?_
  refine WC.region ?_
  refine WL.y0' guard_none (Y0.move rfl) rfl ?_
  refine WL.y0' guard_none (Y0.assign rfl) rfl ?_
  refine WL.nil ?_
  refine WE.then ?_
  refine WC.seq ?_
  refine WC.seq ?_
  refine WC.region ?_
  refine WL.y0' guard_none (Y0.assign rfl) rfl ?_
  refine WL.nil ?_
  refine WE.then ?_
  refine WC.block ?_
  refine WC.loopH (fun (gst : Nat × Nat × M) => match gst with | ⟨x, lf, mm⟩ => [(5, .pointer (some ⟨b5, 0, none⟩)), (7, .bool true), (8, .int .i64 (vr : Int)), (9, .int .i64 (dg : Int)), (10, .slice p (allM vr dg).length cap), (11, .int .i64 0), (14, .pointer (some ⟨b14, 0, none⟩)), (15, .int .i64 (lf : Int)), (16, .int .i64 (x : Int))]) (fun (gst : Nat × Nat × M) => match gst with | ⟨x, lf, mm⟩ => x ≤ vr ∧ DrawM dg mm x lf) (fun (gst : Nat × Nat × M) => match gst with | ⟨x, lf, mm⟩ => St w0 G0 G36 [(14, b14, .cells (vecA mm) 27 (0, 0)), (5, b5, .cells (vecU y) 24 (0, 0))]) (fun (gst : Nat × Nat × M) => match gst with | ⟨x, lf, mm⟩ => vr - x) ⟨0, dg, zeroM⟩ ?_ ?_ ?_ ?_
  · exact Fr.sub_cons rfl (Fr.sub_cons rfl (Fr.sub_cons rfl (Fr.sub_cons rfl (Fr.sub_cons rfl (Fr.sub_cons rfl (Fr.sub_cons rfl (Fr.sub_cons rfl (Fr.sub_cons rfl (Fr.sub_nil _)))))))))
  · exact ⟨by omega, ⟨Nat.le_refl _, fun _ => Int.le_refl _, fun _ _ => rfl, by simp [degTo], fun _ => by simp only [zeroM]; omega⟩⟩
  · exact St.conseqL (Lo.sub_cons rfl (Lo.sub_cons rfl (Lo.sub_nil _)))
  rintro ⟨x, lf, mm⟩ hx0
  obtain ⟨hx1, hdr⟩ := hx0
  refine WC.seq ?_
  refine WC.seq ?_
  refine WC.region ?_
  refine WL.y0' guard_none (Y0.move rfl) rfl ?_
  refine WL.y0' guard_none (Y0.move rfl) rfl ?_
  refine WL.caseY0 guard_none (Y0.lss rfl rfl) rfl (fun h69 => ?_) (fun h69 => ?_)
  · skip
    have hn : x < 8 := by omega
    have yb := hy ⟨x, hn⟩
    obtain ⟨yv, hyv⟩ := Int.eq_ofNat_of_zero_le yb.1
    obtain ⟨z, hzd⟩ : ∃ z, z = yv % (lf + 1) := ⟨_, rfl⟩
    have hz : z ≤ lf := by have := Nat.mod_lt yv (show 0 < lf + 1 from Nat.succ_pos lf); omega
    have hlf := hdr.le
    refine WL.nil ?_
    refine WE.then ?_
    refine WC.condT rfl ?_
    refine WC.skip ?_
    refine WE.then ?_
    refine WC.seq ?_
    refine WC.block ?_
    refine WC.seq ?_
    refine WC.region ?_
    refine WL.y0' guard_none (Y0.move rfl) rfl ?_
    refine WL.y0' guard_none (Y0.move rfl) rfl ?_
    first | refine WL.y0' guard_none (Y0.idxArr1 Try.underlying24 sz22 rfl rfl (by omega)) rfl ?_ | refine WL.y0' guard_none (Y0.idxArr Try.underlying24 sz22 rfl rfl (by omega)) rfl ?_
    refine WL.y0' guard_none (Y0.loadL 5 sc22 rfl rfl (vecU_get y hn)) rfl ?_
    first | refine WL.y0' guard_none (Y0.convI Try.underlying22 Try.underlying3 rfl (by omega)) rfl ?_ | refine WL.y0' guard_none (Y0.conv Try.underlying22 Try.underlying3 rfl) rfl ?_
    refine WL.y0' guard_none (Y0.move rfl) rfl ?_
    first | refine WL.y0' guard_none (Y0.addI rfl rfl (by omega)) rfl ?_ | refine WL.y0' guard_none (Y0.add rfl rfl) rfl ?_
    refine WL.y0' guard_none (Y0.eq (Y0.rem rfl rfl (by omega)) (congrArg (Value.int .i64) (show Int.tmod (y ⟨x, hn⟩) ((lf : Int) + 1) = (z : Int) from by rw [hyv, hzd]; exact tmod_nat yv (lf + 1)))) rfl ?_
    first | refine WL.y0' guard_none (Y0.idxArr1 Try.underlying27 sz3 rfl rfl (by omega)) rfl ?_ | refine WL.y0' guard_none (Y0.idxArr Try.underlying27 sz3 rfl rfl (by omega)) rfl ?_
    refine WL.storeL 14 guard_none sz3 rfl rfl rfl (by first | decide | exact hn | (simp; omega)) rfl ?_
    refine WL.nil ?_
    refine WE.then ?_
    refine WC.region ?_
    refine WL.y0' guard_none (Y0.move rfl) rfl ?_
    refine WL.y0' guard_none (Y0.move rfl) rfl ?_
    first | refine WL.y0' guard_none (Y0.idxArr1 Try.underlying27 sz3 rfl rfl (by omega)) rfl ?_ | refine WL.y0' guard_none (Y0.idxArr Try.underlying27 sz3 rfl rfl (by omega)) rfl ?_
    refine WL.y0' guard_none (Y0.loadL 14 sc3 rfl rfl (set_get mm hn _)) rfl ?_
    first | refine WL.y0' guard_none (Y0.subI rfl rfl (by omega)) rfl ?_ | refine WL.y0' guard_none (Y0.sub rfl rfl) rfl ?_
    refine WL.y0' guard_none (Y0.assign rfl) rfl ?_
    refine WL.nil ?_
    refine WE.inBlock ?_
    refine WE.then ?_
    refine WC.region ?_
    refine WL.y0' guard_none (Y0.move rfl) rfl ?_
    first | refine WL.y0' guard_none (Y0.addI rfl rfl (by omega)) rfl ?_ | refine WL.y0' guard_none (Y0.add rfl rfl) rfl ?_
    refine WL.y0' guard_none (Y0.assign rfl) rfl ?_
    refine WL.nil ?_
    refine WE.backH ⟨x + 1, lf - z, upd mm x (z : Int)⟩ ?_ ?_ ?_ ?_
    · exact ⟨by omega, hdr.step hn hz⟩
    · exact Fr.sub_cons rfl (Fr.sub_cons rfl (Fr.sub_cons rfl (Fr.sub_cons rfl (Fr.sub_cons rfl (Fr.sub_cons rfl (Fr.sub_cons rfl (Fr.sub_cons (congrArg (fun z : Int => some (Value.int .i64 z)) (by omega : (lf : Int) - (z : Int) = ((lf - z : Nat) : Int))) (Fr.sub_cons rfl (Fr.sub_nil _)))))))))
    · exact St.conseqL (Lo.sub_cons (by rw [← vecA_set _ hn]; rfl) (Lo.sub_cons rfl (Lo.sub_nil _)))
    · dsimp only; omega
  · skip
    have hxvr : x = vr := by omega
    rw [hxvr] at hdr
    have h8 : vr - 1 < 8 := by omega
    have hsm := hdr.small ⟨vr - 1, h8⟩
    have hnn := hdr.nonneg ⟨vr - 1, h8⟩
    have hlf := hdr.le
    obtain ⟨mf, hmfd⟩ : ∃ mf, mf = upd mm (vr - 1) (mm ⟨vr - 1, h8⟩ + (lf : Int)) := ⟨_, rfl⟩
    have hmem : 0 < vr → mf ∈ allM vr dg := fun h => by rw [hmfd]; exact hdr.mem h8 h
    refine WL.nil ?_
    refine WE.then ?_
    refine WC.condF rfl ?_
    refine WC.exit ?_
    refine WE.thenExit ?_
    refine WE.thenExit ?_
    refine WE.exitHere ?_
    refine WE.then ?_
    refine WC.seq ?_
    refine WC.region ?_
    refine WL.y0' guard_none (Y0.move rfl) rfl ?_
    first | refine WL.y0' guard_none (Y0.subI rfl rfl (by omega)) rfl ?_ | refine WL.y0' guard_none (Y0.sub rfl rfl) rfl ?_
    refine WL.y0' guard_none (Y0.eq (Y0.max2 rfl rfl) (congrArg (Value.int .i64) (show (if (vr : Int) - 1 < 0 then 0 else (vr : Int) - 1) = ((vr - 1 : Nat) : Int) by split <;> omega))) rfl ?_
    first | refine WL.y0' guard_none (Y0.idxArr1 Try.underlying27 sz3 rfl rfl (by omega)) rfl ?_ | refine WL.y0' guard_none (Y0.idxArr Try.underlying27 sz3 rfl rfl (by omega)) rfl ?_
    refine WL.y0' guard_none (Y0.loadL 14 sc3 rfl rfl (vecA_get mm h8)) rfl ?_
    refine WL.y0' guard_none (Y0.move rfl) rfl ?_
    first | refine WL.y0' guard_none (Y0.addI rfl rfl (by omega)) rfl ?_ | refine WL.y0' guard_none (Y0.add rfl rfl) rfl ?_
    first | refine WL.y0' guard_none (Y0.idxArr1 Try.underlying27 sz3 rfl rfl (by omega)) rfl ?_ | refine WL.y0' guard_none (Y0.idxArr Try.underlying27 sz3 rfl rfl (by omega)) rfl ?_
    refine WL.storeL 14 guard_none sz3 rfl rfl rfl h8 rfl ?_
    refine WL.conseq (fun w hs => hs.weaken (L' := [(14, b14, .cells (vecA mf) 27 (0, 0)), (5, b5, .cells (vecU y) 24 (0, 0))]) (Lo.sub_cons (by rw [hmfd, ← vecA_set _ h8]; rfl) (Lo.sub_cons rfl (Lo.sub_nil _)))) ?_
    refine WL.nil ?_
    refine WE.then ?_
    refine WC.seq ?_
    refine WC.region ?_
    refine WL.y0' guard_none (Y0.move rfl) rfl ?_
    refine WL.y0' guard_none (Y0.eql rfl rfl) rfl ?_
    refine WL.y0' guard_none (Y0.assign rfl) rfl ?_
    refine WL.nil ?_
    refine WE.then ?_
    refine WC.seq ?_
    refine WC.seq ?_
    refine WC.region ?_
    refine WL.y0' guard_none (Y0.assign rfl) rfl ?_
    refine WL.nil ?_
    refine WE.then ?_
    refine WC.block ?_
    refine WC.loopH (fun (gst : Nat × Bool) => match gst with | ⟨x, bg⟩ => [(5, .pointer (some ⟨b5, 0, none⟩)), (7, .bool true), (8, .int .i64 (vr : Int)), (9, .int .i64 (dg : Int)), (10, .slice p (allM vr dg).length cap), (11, .int .i64 0), (14, .pointer (some ⟨b14, 0, none⟩)), (17, .bool bg), (18, .int .i64 (x : Int))]) (fun (gst : Nat × Bool) => match gst with | ⟨x, bg⟩ => x ≤ (allM vr dg).length ∧ (bg = true ↔ ((vr : Int) = 0 ∨ ∃ (i : Nat) (h : i < (allM vr dg).length), i < x ∧ (allM vr dg)[i] = mf))) (fun (gst : Nat × Bool) => match gst with | ⟨x, bg⟩ => St w0 G0 G36 [(14, b14, .cells (vecA mf) 27 (0, 0)), (5, b5, .cells (vecU y) 24 (0, 0))]) (fun (gst : Nat × Bool) => match gst with | ⟨x, bg⟩ => (allM vr dg).length - x) ⟨0, decide ((vr : Int) = 0)⟩ ?_ ?_ ?_ ?_
    · exact Fr.sub_cons rfl (Fr.sub_cons rfl (Fr.sub_cons rfl (Fr.sub_cons rfl (Fr.sub_cons rfl (Fr.sub_cons rfl (Fr.sub_cons rfl (Fr.sub_cons rfl (Fr.sub_cons rfl (Fr.sub_nil _)))))))))
    · exact ⟨by omega, by simp⟩
    · intro w hs; exact hs
    rintro ⟨x, bg⟩ hx0
    obtain ⟨hx1, hbg⟩ := hx0
    refine WC.seq ?_
    refine WC.seq ?_
    refine WC.region ?_
    refine WL.y0' guard_none (Y0.move rfl) rfl ?_
    refine WL.y0' guard_none (Y0.move rfl) rfl ?_
    refine WL.y0' guard_none (Y0.lenSl Try.underlying42 rfl) rfl ?_
    refine WL.caseY0 guard_none (Y0.lss rfl rfl) rfl (fun h99 => ?_) (fun h99 => ?_)
    · skip
      have hn : x < (allM vr dg).length := by omega
      have hp := hp2 (by omega)
      subst hp
      have hel := chk_el hck hn
      have hsmx : Sm (allM vr dg)[x] := hel.2.1.sm
      refine WL.nil ?_
      refine WE.then ?_
      refine WC.condT rfl ?_
      refine WC.skip ?_
      refine WE.then ?_
      refine WC.seq ?_
      refine WC.block ?_
      refine WC.seq ?_
      refine WC.seq ?_
      refine WC.drawn [false, false, false, false, false, false, false, false, false, false, false, false, false, false, false, false, false, false, false, false, false, false, false, false, false, false, false, false, false, false, false, false] mix (by kernel_rfl) (fun hb => ?_)
      refine Chain.y0 guard_none (fun _ hle => Y0.move rfl) ?_
      refine Chain.y0 guard_none (fun _ hle => Y0.move rfl) ?_
      first | refine Chain.y0 guard_none (fun _ hle => Y0.idxSlN Try.underlying42 sz27 rfl rfl (by omega)) ?_ | refine Chain.y0 guard_none (fun _ hle => Y0.idxSl Try.underlying42 sz27 rfl rfl (by omega)) ?_
      refine Chain.y0 guard_none (fun _ hle => Y0.loadGA _ ag27 rfl rfl (fun j v hv => hle _ _ _ (SlM.cells hcell hn j v hv))) ?_
      refine Chain.call0 guard_none (fun _ => YC.of E25 rfl) (mDegree _ (by assumption)) rfl (fun G' hle => trivial) ?_
      refine Chain.y0 guard_none (fun _ hle => Y0.move rfl) ?_
      refine Chain.y0 guard_none (fun _ hle => Y0.eq (Y0.neq rfl rfl) (congrArg Value.bool (decide_eq_false (fun h => h hel.1)))) ?_
      refine Chain.y0 guard_none (fun _ hle => Y0.move rfl) ?_
      refine Chain.y0 (guard_yes rfl rfl) (fun _ hle => Y0.move rfl) ?_
      refine Chain.y0 (guard_yes rfl rfl) (fun _ hle => Y0.move rfl) ?_
      first | refine Chain.y0 (guard_yes rfl rfl) (fun _ hle => Y0.idxSlN Try.underlying42 sz27 rfl rfl (by omega)) ?_ | refine Chain.y0 (guard_yes rfl rfl) (fun _ hle => Y0.idxSl Try.underlying42 sz27 rfl rfl (by omega)) ?_
      refine Chain.y0 (guard_yes rfl rfl) (fun _ hle => Y0.loadGA _ ag27 rfl rfl (fun j v hv => hle _ _ _ (SlM.cells hcell hn j v hv))) ?_
      refine Chain.call0 (guard_yes rfl rfl) (fun _ => YC.of E29 rfl) ((mValid _).eqvB (b' := true) (decide_eq_true hel.2.1)) rfl (fun G' hle => trivial) ?_
      refine Chain.y0 (guard_yes rfl rfl) (fun _ hle => Y0.not rfl) ?_
      refine Chain.y0 guard_none (fun _ hle => Y0.pickF rfl rfl) ?_
      refine Chain.y0 guard_none (fun _ hle => Y0.move rfl) ?_
      refine Chain.y0 (guard_yes rfl rfl) (fun _ hle => Y0.move rfl) ?_
      refine Chain.caseY0 (guard_yes rfl rfl) (fun _ hle => Y0.gtr rfl rfl) (fun h119 => ?_) (fun h119 => ?_)
      · skip
        refine Chain.y0 (guard_yes rfl rfl) (fun _ hle => Y0.move rfl) ?_
        refine Chain.y0 (guard_yes rfl rfl) (fun _ hle => Y0.move rfl) ?_
        refine Chain.y0 (guard_yes rfl rfl) (fun _ hle => Y0.move rfl) ?_
        refine Chain.y0 (guard_yes rfl rfl) (fun _ hle => Y0.eq (Y0.subI rfl rfl (by omega)) (congrArg (Value.int .i64) (show (x : Int) - 1 = ((x - 1 : Nat) : Int) by omega))) ?_
        first | refine Chain.y0 (guard_yes rfl rfl) (fun _ hle => Y0.idxSlN Try.underlying42 sz27 rfl rfl (by omega)) ?_ | refine Chain.y0 (guard_yes rfl rfl) (fun _ hle => Y0.idxSl Try.underlying42 sz27 rfl rfl (by omega)) ?_
        refine Chain.y0 (guard_yes rfl rfl) (fun _ hle => Y0.loadGA _ ag27 rfl rfl (fun j v hv => hle _ _ _ (SlM.cells hcell (show x - 1 < (allM vr dg).length by omega) j v hv))) ?_
        refine Chain.y0 (guard_yes rfl rfl) (fun _ hle => Y0.move rfl) ?_
        refine Chain.y0 (guard_yes rfl rfl) (fun _ hle => Y0.move rfl) ?_
        first | refine Chain.y0 (guard_yes rfl rfl) (fun _ hle => Y0.idxSlN Try.underlying42 sz27 rfl rfl (by omega)) ?_ | refine Chain.y0 (guard_yes rfl rfl) (fun _ hle => Y0.idxSl Try.underlying42 sz27 rfl rfl (by omega)) ?_
        refine Chain.y0 (guard_yes rfl rfl) (fun _ hle => Y0.loadGA _ ag27 rfl rfl (fun j v hv => hle _ _ _ (SlM.cells hcell hn j v hv))) ?_
        refine Chain.call0 (guard_yes rfl rfl) (fun _ => YC.of E19 rfl) (mCmp _ _) rfl (fun G' hle => trivial) ?_
        refine Chain.y0 (guard_yes rfl rfl) (fun _ hle => Y0.eq (Y0.leq rfl rfl) (congrArg Value.bool (decide_eq_false (by have := chk_dec1 hck (by omega) hn; omega)))) ?_
        refine Chain.y0 (guard_yes rfl rfl) (fun _ hle => Y0.pickT rfl rfl) ?_
        refine Chain.y0 guard_none (fun _ hle => Y0.pickF rfl rfl) ?_
        refine Chain.tail0 hb ?_
        refine WL.nil ?_
        refine WE.nx ?_
        refine WE.then ?_
        refine WC.condF rfl ?_
        refine WC.skip ?_
        refine WE.then ?_
        refine WC.seq ?_
        refine WC.seq ?_
        refine WC.region ?_
        refine WL.y0' guard_none (Y0.move rfl) rfl ?_
        refine WL.y0' guard_none (Y0.assign rfl) rfl ?_
        refine WL.nil ?_
        refine WE.then ?_
        refine WC.block ?_
        refine WC.loopH (fun (gst : Nat) => match gst with | k => [(5, .pointer (some ⟨b5, 0, none⟩)), (7, .bool true), (8, .int .i64 (vr : Int)), (9, .int .i64 (dg : Int)), (10, .slice (some ⟨bb, off, none⟩) (allM vr dg).length cap), (11, .int .i64 0), (14, .pointer (some ⟨b14, 0, none⟩)), (17, .bool bg), (18, .int .i64 (x : Int)), (19, .int .i64 (k : Int))]) (fun (gst : Nat) => match gst with | k => vr ≤ k ∧ k ≤ 8) (fun (gst : Nat) => match gst with | k => St w0 G0 G36 [(14, b14, .cells (vecA mf) 27 (0, 0)), (5, b5, .cells (vecU y) 24 (0, 0))]) (fun (gst : Nat) => match gst with | k => 8 - k) vr ?_ ?_ ?_ ?_
        · exact Fr.sub_cons rfl (Fr.sub_cons rfl (Fr.sub_cons rfl (Fr.sub_cons rfl (Fr.sub_cons rfl (Fr.sub_cons rfl (Fr.sub_cons rfl (Fr.sub_cons rfl (Fr.sub_cons rfl (Fr.sub_cons rfl (Fr.sub_nil _))))))))))
        · exact ⟨by omega, by omega⟩
        · intro w hs; exact hs
        rintro k hx0
        obtain ⟨hk1, hk2⟩ := hx0
        refine WC.seq ?_
        refine WC.seq ?_
        refine WC.region ?_
        refine WL.y0' guard_none (Y0.move rfl) rfl ?_
        refine WL.caseY0 guard_none (Y0.lss rfl rfl) rfl (fun h136 => ?_) (fun h136 => ?_)
        · skip
          have hk8 : k < 8 := by omega
          refine WL.nil ?_
          refine WE.then ?_
          refine WC.condT rfl ?_
          refine WC.skip ?_
          refine WE.then ?_
          refine WC.seq ?_
          refine WC.block ?_
          refine WC.seq ?_
          refine WC.region ?_
          refine WL.y0' guard_none (Y0.move rfl) rfl ?_
          refine WL.y0' guard_none (Y0.move rfl) rfl ?_
          refine WL.y0' guard_none (Y0.move rfl) rfl ?_
          first | refine WL.y0' guard_none (Y0.idxSlN Try.underlying42 sz27 rfl rfl (by omega)) rfl ?_ | refine WL.y0' guard_none (Y0.idxSl Try.underlying42 sz27 rfl rfl (by omega)) rfl ?_
          refine WL.y0' guard_none (Y0.idxArrN Try.underlying27 sz3 rfl rfl hk8) rfl ?_
          refine WL.y0' guard_none (Y0.loadG sc3 rfl (hcell x hn ⟨k, hk8⟩)) rfl ?_
          refine WL.y0' guard_none (Y0.eq (Y0.neq rfl rfl) (congrArg Value.bool (decide_eq_false (fun h => h (hel.2.2 ⟨k, hk8⟩ hk1))))) rfl ?_
          refine WL.nil ?_
          refine WE.then ?_
          refine WC.condF rfl ?_
          refine WC.skip ?_
          refine WE.inBlock ?_
          refine WE.then ?_
          refine WC.region ?_
          refine WL.y0' guard_none (Y0.move rfl) rfl ?_
          first | refine WL.y0' guard_none (Y0.addI rfl rfl (by omega)) rfl ?_ | refine WL.y0' guard_none (Y0.add rfl rfl) rfl ?_
          refine WL.y0' guard_none (Y0.assign rfl) rfl ?_
          refine WL.nil ?_
          refine WE.backH (k + 1) ?_ ?_ ?_ ?_
          · exact ⟨by omega, by omega⟩
          · exact Fr.sub_cons rfl (Fr.sub_cons rfl (Fr.sub_cons rfl (Fr.sub_cons rfl (Fr.sub_cons rfl (Fr.sub_cons rfl (Fr.sub_cons rfl (Fr.sub_cons rfl (Fr.sub_cons rfl (Fr.sub_cons rfl (Fr.sub_nil _))))))))))
          · intro w hs; exact hs
          · dsimp only; omega
        · skip
          refine WL.nil ?_
          refine WE.then ?_
          refine WC.condF rfl ?_
          refine WC.exit ?_
          refine WE.thenExit ?_
          refine WE.thenExit ?_
          refine WE.exitHere ?_
          refine WE.then ?_
          refine WC.drawn [false, false, false, false, false, false, false, false, false, false] mix (by kernel_rfl) (fun hb => ?_)
          refine Chain.caseY0 guard_none (fun _ hle => Y0.eq (Y0.move rfl) (congrArg Value.bool (bdec _))) (fun h146 => ?_) (fun h146 => ?_)
          · skip
            refine Chain.y0 guard_none (fun _ hle => Y0.move rfl) ?_
            refine Chain.skip (guard_noF rfl rfl) ?_
            refine Chain.skip (guard_noF rfl rfl) ?_
            refine Chain.skip (guard_noF rfl rfl) ?_
            refine Chain.skip (guard_noF rfl rfl) ?_
            refine Chain.skip (guard_noF rfl rfl) ?_
            refine Chain.skip (guard_noF rfl rfl) ?_
            refine Chain.y0 guard_none (fun _ hle => Y0.pickT rfl rfl) ?_
            refine Chain.y0 guard_none (fun _ hle => Y0.assign rfl) ?_
            refine Chain.tail0 hb ?_
            refine WL.nil ?_
            refine WE.nx ?_
            refine WE.inBlock ?_
            refine WE.then ?_
            refine WC.region ?_
            refine WL.y0' guard_none (Y0.move rfl) rfl ?_
            first | refine WL.y0' guard_none (Y0.addI rfl rfl (by omega)) rfl ?_ | refine WL.y0' guard_none (Y0.add rfl rfl) rfl ?_
            refine WL.y0' guard_none (Y0.assign rfl) rfl ?_
            refine WL.nil ?_
            refine WE.backH ⟨x + 1, true⟩ ?_ ?_ ?_ ?_
            · exact ⟨by omega, exl_step (p := fun q => q = mf) hbg hn true (by simp [h146])⟩
            · exact Fr.sub_cons rfl (Fr.sub_cons rfl (Fr.sub_cons rfl (Fr.sub_cons rfl (Fr.sub_cons rfl (Fr.sub_cons rfl (Fr.sub_cons rfl (Fr.sub_cons rfl (Fr.sub_cons rfl (Fr.sub_nil _)))))))))
            · intro w hs; exact hs
            · dsimp only; omega
          · skip
            refine Chain.y0 guard_none (fun _ hle => Y0.move rfl) ?_
            refine Chain.y0 (guard_yes rfl rfl) (fun _ hle => Y0.move rfl) ?_
            refine Chain.y0 (guard_yes rfl rfl) (fun _ hle => Y0.move rfl) ?_
            first | refine Chain.y0 (guard_yes rfl rfl) (fun _ hle => Y0.idxSlN Try.underlying42 sz27 rfl rfl (by omega)) ?_ | refine Chain.y0 (guard_yes rfl rfl) (fun _ hle => Y0.idxSl Try.underlying42 sz27 rfl rfl (by omega)) ?_
            refine Chain.y0 (guard_yes rfl rfl) (fun _ hle => Y0.loadGA _ ag27 rfl rfl (fun j v hv => hle _ _ _ (SlM.cells hcell hn j v hv))) ?_
            refine Chain.y0 (guard_yes rfl rfl) (fun _ hle => Y0.loadLA 14 ag27 rfl rfl rfl) ?_
            refine Chain.caseY0 (guard_yes rfl rfl) (fun _ hle => Y0.eqlM Try.underlying27 Try.underlying3 sc3 sz3 eg27 rfl rfl) (fun h153 => ?_) (fun h153 => ?_)
            · skip
              refine Chain.y0 guard_none (fun _ hle => Y0.pickF rfl rfl) ?_
              refine Chain.y0 guard_none (fun _ hle => Y0.assign rfl) ?_
              refine Chain.tail0 hb ?_
              refine WL.nil ?_
              refine WE.nx ?_
              refine WE.inBlock ?_
              refine WE.then ?_
              refine WC.region ?_
              refine WL.y0' guard_none (Y0.move rfl) rfl ?_
              first | refine WL.y0' guard_none (Y0.addI rfl rfl (by omega)) rfl ?_ | refine WL.y0' guard_none (Y0.add rfl rfl) rfl ?_
              refine WL.y0' guard_none (Y0.assign rfl) rfl ?_
              refine WL.nil ?_
              refine WE.backH ⟨x + 1, true⟩ ?_ ?_ ?_ ?_
              · exact ⟨by omega, exl_step (p := fun q => q = mf) hbg hn true (by simp [h153])⟩
              · exact Fr.sub_cons rfl (Fr.sub_cons rfl (Fr.sub_cons rfl (Fr.sub_cons rfl (Fr.sub_cons rfl (Fr.sub_cons rfl (Fr.sub_cons rfl (Fr.sub_cons rfl (Fr.sub_cons rfl (Fr.sub_nil _)))))))))
              · intro w hs; exact hs
              · dsimp only; omega
            · skip
              refine Chain.y0 guard_none (fun _ hle => Y0.pickF rfl rfl) ?_
              refine Chain.y0 guard_none (fun _ hle => Y0.assign rfl) ?_
              refine Chain.tail0 hb ?_
              refine WL.nil ?_
              refine WE.nx ?_
              refine WE.inBlock ?_
              refine WE.then ?_
              refine WC.region ?_
              refine WL.y0' guard_none (Y0.move rfl) rfl ?_
              first | refine WL.y0' guard_none (Y0.addI rfl rfl (by omega)) rfl ?_ | refine WL.y0' guard_none (Y0.add rfl rfl) rfl ?_
              refine WL.y0' guard_none (Y0.assign rfl) rfl ?_
              refine WL.nil ?_
              refine WE.backH ⟨x + 1, false⟩ ?_ ?_ ?_ ?_
              · exact ⟨by omega, exl_step (p := fun q => q = mf) hbg hn false (by simp [h146, h153])⟩
              · exact Fr.sub_cons rfl (Fr.sub_cons rfl (Fr.sub_cons rfl (Fr.sub_cons rfl (Fr.sub_cons rfl (Fr.sub_cons rfl (Fr.sub_cons rfl (Fr.sub_cons rfl (Fr.sub_cons rfl (Fr.sub_nil _)))))))))
              · intro w hs; exact hs
              · dsimp only; omega
      · skip
        refine Chain.y0 (guard_yes rfl rfl) (fun _ hle => Y0.move rfl) ?_
        refine Chain.skip (guard_noT rfl rfl) ?_
        refine Chain.skip (guard_noT rfl rfl) ?_
        refine Chain.skip (guard_noT rfl rfl) ?_
        refine Chain.skip (guard_noT rfl rfl) ?_
        refine Chain.skip (guard_noT rfl rfl) ?_
        refine Chain.skip (guard_noT rfl rfl) ?_
        refine Chain.skip (guard_noT rfl rfl) ?_
        refine Chain.skip (guard_noT rfl rfl) ?_
        refine Chain.skip (guard_noT rfl rfl) ?_
        refine Chain.skip (guard_noT rfl rfl) ?_
        refine Chain.skip (guard_noT rfl rfl) ?_
        refine Chain.y0 (guard_yes rfl rfl) (fun _ hle => Y0.pickF rfl rfl) ?_
        refine Chain.y0 guard_none (fun _ hle => Y0.pickF rfl rfl) ?_
        refine Chain.tail0 hb ?_
        refine WL.nil ?_
        refine WE.nx ?_
        refine WE.then ?_
        refine WC.condF rfl ?_
        refine WC.skip ?_
        refine WE.then ?_
        refine WC.seq ?_
        refine WC.seq ?_
        refine WC.region ?_
        refine WL.y0' guard_none (Y0.move rfl) rfl ?_
        refine WL.y0' guard_none (Y0.assign rfl) rfl ?_
        refine WL.nil ?_
        refine WE.then ?_
        refine WC.block ?_
        refine WC.loopH (fun (gst : Nat) => match gst with | k => [(5, .pointer (some ⟨b5, 0, none⟩)), (7, .bool true), (8, .int .i64 (vr : Int)), (9, .int .i64 (dg : Int)), (10, .slice (some ⟨bb, off, none⟩) (allM vr dg).length cap), (11, .int .i64 0), (14, .pointer (some ⟨b14, 0, none⟩)), (17, .bool bg), (18, .int .i64 (x : Int)), (19, .int .i64 (k : Int))]) (fun (gst : Nat) => match gst with | k => vr ≤ k ∧ k ≤ 8) (fun (gst : Nat) => match gst with | k => St w0 G0 G36 [(14, b14, .cells (vecA mf) 27 (0, 0)), (5, b5, .cells (vecU y) 24 (0, 0))]) (fun (gst : Nat) => match gst with | k => 8 - k) vr ?_ ?_ ?_ ?_
        · exact Fr.sub_cons rfl (Fr.sub_cons rfl (Fr.sub_cons rfl (Fr.sub_cons rfl (Fr.sub_cons rfl (Fr.sub_cons rfl (Fr.sub_cons rfl (Fr.sub_cons rfl (Fr.sub_cons rfl (Fr.sub_cons rfl (Fr.sub_nil _))))))))))
        · exact ⟨by omega, by omega⟩
        · intro w hs; exact hs
        rintro k hx0
        obtain ⟨hk1, hk2⟩ := hx0
        refine WC.seq ?_
        refine WC.seq ?_
        refine WC.region ?_
        refine WL.y0' guard_none (Y0.move rfl) rfl ?_
        refine WL.caseY0 guard_none (Y0.lss rfl rfl) rfl (fun h136 => ?_) (fun h136 => ?_)
        · skip
          have hk8 : k < 8 := by omega
          refine WL.nil ?_
          refine WE.then ?_
          refine WC.condT rfl ?_
          refine WC.skip ?_
          refine WE.then ?_
          refine WC.seq ?_
          refine WC.block ?_
          refine WC.seq ?_
          refine WC.region ?_
          refine WL.y0' guard_none (Y0.move rfl) rfl ?_
          refine WL.y0' guard_none (Y0.move rfl) rfl ?_
          refine WL.y0' guard_none (Y0.move rfl) rfl ?_
          first | refine WL.y0' guard_none (Y0.idxSlN Try.underlying42 sz27 rfl rfl (by omega)) rfl ?_ | refine WL.y0' guard_none (Y0.idxSl Try.underlying42 sz27 rfl rfl (by omega)) rfl ?_
          refine WL.y0' guard_none (Y0.idxArrN Try.underlying27 sz3 rfl rfl hk8) rfl ?_
          refine WL.y0' guard_none (Y0.loadG sc3 rfl (hcell x hn ⟨k, hk8⟩)) rfl ?_
          refine WL.y0' guard_none (Y0.eq (Y0.neq rfl rfl) (congrArg Value.bool (decide_eq_false (fun h => h (hel.2.2 ⟨k, hk8⟩ hk1))))) rfl ?_
          refine WL.nil ?_
          refine WE.then ?_
          refine WC.condF rfl ?_
          refine WC.skip ?_
          refine WE.inBlock ?_
          refine WE.then ?_
          refine WC.region ?_
          refine WL.y0' guard_none (Y0.move rfl) rfl ?_
          first | refine WL.y0' guard_none (Y0.addI rfl rfl (by omega)) rfl ?_ | refine WL.y0' guard_none (Y0.add rfl rfl) rfl ?_
          refine WL.y0' guard_none (Y0.assign rfl) rfl ?_
          refine WL.nil ?_
          refine WE.backH (k + 1) ?_ ?_ ?_ ?_
          · exact ⟨by omega, by omega⟩
          · exact Fr.sub_cons rfl (Fr.sub_cons rfl (Fr.sub_cons rfl (Fr.sub_cons rfl (Fr.sub_cons rfl (Fr.sub_cons rfl (Fr.sub_cons rfl (Fr.sub_cons rfl (Fr.sub_cons rfl (Fr.sub_cons rfl (Fr.sub_nil _))))))))))
          · intro w hs; exact hs
          · dsimp only; omega
        · skip
          refine WL.nil ?_
          refine WE.then ?_
          refine WC.condF rfl ?_
          refine WC.exit ?_
          refine WE.thenExit ?_
          refine WE.thenExit ?_
          refine WE.exitHere ?_
          refine WE.then ?_
          refine WC.drawn [false, false, false, false, false, false, false, false, false, false] mix (by kernel_rfl) (fun hb => ?_)
          refine Chain.caseY0 guard_none (fun _ hle => Y0.eq (Y0.move rfl) (congrArg Value.bool (bdec _))) (fun h146 => ?_) (fun h146 => ?_)
          · skip
            refine Chain.y0 guard_none (fun _ hle => Y0.move rfl) ?_
            refine Chain.skip (guard_noF rfl rfl) ?_
            refine Chain.skip (guard_noF rfl rfl) ?_
            refine Chain.skip (guard_noF rfl rfl) ?_
            refine Chain.skip (guard_noF rfl rfl) ?_
            refine Chain.skip (guard_noF rfl rfl) ?_
            refine Chain.skip (guard_noF rfl rfl) ?_
            refine Chain.y0 guard_none (fun _ hle => Y0.pickT rfl rfl) ?_
            refine Chain.y0 guard_none (fun _ hle => Y0.assign rfl) ?_
            refine Chain.tail0 hb ?_
            refine WL.nil ?_
            refine WE.nx ?_
            refine WE.inBlock ?_
            refine WE.then ?_
            refine WC.region ?_
            refine WL.y0' guard_none (Y0.move rfl) rfl ?_
            first | refine WL.y0' guard_none (Y0.addI rfl rfl (by omega)) rfl ?_ | refine WL.y0' guard_none (Y0.add rfl rfl) rfl ?_
            refine WL.y0' guard_none (Y0.assign rfl) rfl ?_
            refine WL.nil ?_
            refine WE.backH ⟨x + 1, true⟩ ?_ ?_ ?_ ?_
            · exact ⟨by omega, exl_step (p := fun q => q = mf) hbg hn true (by simp [h146])⟩
            · exact Fr.sub_cons rfl (Fr.sub_cons rfl (Fr.sub_cons rfl (Fr.sub_cons rfl (Fr.sub_cons rfl (Fr.sub_cons rfl (Fr.sub_cons rfl (Fr.sub_cons rfl (Fr.sub_cons rfl (Fr.sub_nil _)))))))))
            · intro w hs; exact hs
            · dsimp only; omega
          · skip
            refine Chain.y0 guard_none (fun _ hle => Y0.move rfl) ?_
            refine Chain.y0 (guard_yes rfl rfl) (fun _ hle => Y0.move rfl) ?_
            refine Chain.y0 (guard_yes rfl rfl) (fun _ hle => Y0.move rfl) ?_
            first | refine Chain.y0 (guard_yes rfl rfl) (fun _ hle => Y0.idxSlN Try.underlying42 sz27 rfl rfl (by omega)) ?_ | refine Chain.y0 (guard_yes rfl rfl) (fun _ hle => Y0.idxSl Try.underlying42 sz27 rfl rfl (by omega)) ?_
            refine Chain.y0 (guard_yes rfl rfl) (fun _ hle => Y0.loadGA _ ag27 rfl rfl (fun j v hv => hle _ _ _ (SlM.cells hcell hn j v hv))) ?_
            refine Chain.y0 (guard_yes rfl rfl) (fun _ hle => Y0.loadLA 14 ag27 rfl rfl rfl) ?_
            refine Chain.caseY0 (guard_yes rfl rfl) (fun _ hle => Y0.eqlM Try.underlying27 Try.underlying3 sc3 sz3 eg27 rfl rfl) (fun h153 => ?_) (fun h153 => ?_)
            · skip
              refine Chain.y0 guard_none (fun _ hle => Y0.pickF rfl rfl) ?_
              refine Chain.y0 guard_none (fun _ hle => Y0.assign rfl) ?_
              refine Chain.tail0 hb ?_
              refine WL.nil ?_
              refine WE.nx ?_
              refine WE.inBlock ?_
              refine WE.then ?_
              refine WC.region ?_
              refine WL.y0' guard_none (Y0.move rfl) rfl ?_
              first | refine WL.y0' guard_none (Y0.addI rfl rfl (by omega)) rfl ?_ | refine WL.y0' guard_none (Y0.add rfl rfl) rfl ?_
              refine WL.y0' guard_none (Y0.assign rfl) rfl ?_
              refine WL.nil ?_
              refine WE.backH ⟨x + 1, true⟩ ?_ ?_ ?_ ?_
              · exact ⟨by omega, exl_step (p := fun q => q = mf) hbg hn true (by simp [h153])⟩
              · exact Fr.sub_cons rfl (Fr.sub_cons rfl (Fr.sub_cons rfl (Fr.sub_cons rfl (Fr.sub_cons rfl (Fr.sub_cons rfl (Fr.sub_cons rfl (Fr.sub_cons rfl (Fr.sub_cons rfl (Fr.sub_nil _)))))))))
              · intro w hs; exact hs
              · dsimp only; omega
            · skip
              refine Chain.y0 guard_none (fun _ hle => Y0.pickF rfl rfl) ?_
              refine Chain.y0 guard_none (fun _ hle => Y0.assign rfl) ?_
              refine Chain.tail0 hb ?_
              refine WL.nil ?_
              refine WE.nx ?_
              refine WE.inBlock ?_
              refine WE.then ?_
              refine WC.region ?_
              refine WL.y0' guard_none (Y0.move rfl) rfl ?_
              first | refine WL.y0' guard_none (Y0.addI rfl rfl (by omega)) rfl ?_ | refine WL.y0' guard_none (Y0.add rfl rfl) rfl ?_
              refine WL.y0' guard_none (Y0.assign rfl) rfl ?_
              refine WL.nil ?_
              refine WE.backH ⟨x + 1, false⟩ ?_ ?_ ?_ ?_
              · exact ⟨by omega, exl_step (p := fun q => q = mf) hbg hn false (by simp [h146, h153])⟩
              · exact Fr.sub_cons rfl (Fr.sub_cons rfl (Fr.sub_cons rfl (Fr.sub_cons rfl (Fr.sub_cons rfl (Fr.sub_cons rfl (Fr.sub_cons rfl (Fr.sub_cons rfl (Fr.sub_cons rfl (Fr.sub_nil _)))))))))
              · intro w hs; exact hs
              · dsimp only; omega
    · skip
      have hbt : bg = true := hbg.2 (by
        by_cases h0 : vr = 0
        · exact .inl (by omega)
        · obtain ⟨i, hi, he⟩ := List.getElem_of_mem (hmem (by omega))
          exact .inr ⟨i, hi, by omega, he⟩)
      subst hbt
      refine WL.nil ?_
      refine WE.then ?_
      refine WC.condF rfl ?_
      refine WC.exit ?_
      refine WE.thenExit ?_
      refine WE.thenExit ?_
      refine WE.exitHere ?_
      refine WE.then ?_
      refine WC.seq ?_
      refine WC.region ?_
      refine WL.y0' guard_none (Y0.move rfl) rfl ?_
      refine WL.y0' guard_none (Y0.move rfl) rfl ?_
      refine WL.y0' (guard_yes rfl rfl) (Y0.move rfl) rfl ?_
      refine WL.y0' guard_none (Y0.pickT rfl rfl) rfl ?_
      refine WL.y0' guard_none (Y0.assign rfl) rfl ?_
      refine WL.nil ?_
      refine WE.then ?_
      refine WC.ret ?_
      refine WE.ret1 rfl rfl ?_
      rfl

end Go.Proofs.Ytdpmpefjplfgbaa
