/- Contracts of functions on lists of monomials. The conditions stand in each statement. -/
import Derived.Test.YtdpmpefjplfgbaaMa
import Derived.Test.YtdpmpefjplfgbaaElj
namespace Go.Proofs.Ytdpmpefjplfgbaa
open Go Go.EL Go.RowKit
theorem el27 : ElT Try.prog 27 (.agg (vecA zeroM)) 8 64 := by unfold ElT; kernel_rfl
theorem bs42 (f : M) : ∀ w, (Instr.buildSlice 42 1 #[(0, .agg (vecA f))]).run Try.prog w = .ok (.slice (some ⟨w.heap.size, 0, none⟩) 1 1) (w.alloc (.cells (vecA f) 27)) := fun _ => by kernel_rfl
theorem be42 : ∀ w, (Instr.buildSlice 42 0 #[]).run Try.prog w = .ok (.slice (some ⟨w.heap.size, 0, none⟩) 0 0) (w.alloc (.cells #[] 27)) := fun _ => by kernel_rfl

theorem mIn (m : M) (v : Value) (l : List M) : Ctr Try.prog 34 #[.agg (vecA m), v] (fun G => SlM G v l) (fun G r => r = .bool (inM m l)) := by
  refine Ctr.enter (args := [_, _]) (N := 17) Try.func34 rfl rfl rfl (fun w0 G0 hL0 hpre => ?_)
  obtain ⟨p, cap, b, off, rfl, hmax, hp1, hp2, hcell⟩ := hpre
  refine WC.seq ?_
  refine WC.region ?_
  refine WL.box 2 guard_none rfl rfl (fun b2 => ?_)
  refine WL.y0' guard_none (Y0.assign rfl) rfl ?_
  refine WL.nil ?_
  refine WE.then ?_
  refine WC.seq ?_
  refine WC.seq ?_
  refine WC.region ?_
  refine WL.y0' guard_none (Y0.move rfl) rfl ?_
  refine WL.y0' guard_none (Y0.lenSl Try.underlying42 rfl) rfl ?_
  refine WL.y0' guard_none (Y0.move rfl) rfl ?_
  refine WL.nil ?_
  refine WE.then ?_
  refine WC.block ?_
  refine WC.loopH (fun (x : Nat) => [(2, .pointer (some ⟨b2, 0, none⟩)), (7, .slice p l.length cap), (8, .int .i64 (l.length : Int)), (9, .int .i64 (x : Int))]) (fun (x : Nat) => x ≤ l.length ∧ ∀ (i : Nat) (hi : i < l.length), i < x → ¬ dvdM l[i] m) (fun (x : Nat) => St w0 G0 G0 [(2, b2, .cells (vecA m) 27 (0, 0))]) (fun (x : Nat) => l.length - x) 0 ?_ ?_ ?_ ?_
  · exact Fr.sub_cons rfl (Fr.sub_cons rfl (Fr.sub_cons rfl (Fr.sub_cons rfl (Fr.sub_nil _))))
  · exact ⟨by omega, fun i _ h => by omega⟩
  · exact St.conseqL (Lo.sub_cons (rfl) (Lo.sub_nil _))
  rintro x hx
  obtain ⟨hk, hall⟩ := hx
  refine WC.seq ?_
  refine WC.region ?_
  refine WL.caseY0 guard_none (Y0.lss rfl rfl) rfl (fun h10 => ?_) (fun h10 => ?_)
  · skip
    have hn : x < l.length := by omega
    have hp := hp2 (by omega)
    subst hp
    refine WL.nil ?_
    refine WE.then ?_
    refine WC.seq ?_
    refine WC.condT rfl ?_
    refine WC.skip ?_
    refine WE.then ?_
    refine WC.seq ?_
    refine WC.block ?_
    refine WC.seq ?_
    refine WC.region ?_
    first | refine WL.y0' guard_none (Y0.idxSlN Try.underlying42 sz27 rfl rfl (by omega)) rfl ?_ | refine WL.y0' guard_none (Y0.idxSl Try.underlying42 sz27 rfl rfl (by omega)) rfl ?_
    refine WL.y0' guard_none (Y0.loadGA _ ag27 rfl rfl (SlM.cells hcell hn)) rfl ?_
    refine WL.alloc 6 guard_none z27 rfl (fun b6 => ?_)
    refine WL.storeLA 6 guard_none sz27 rfl rfl rfl rfl rfl rfl ?_
    refine WL.nil ?_
    refine WE.then ?_
    refine WC.seq ?_
    refine WC.region ?_
    refine WL.y0' guard_none (Y0.loadLA 6 ag27 rfl rfl rfl) rfl ?_
    refine WL.y0' guard_none (Y0.loadLA 2 ag27 rfl rfl rfl) rfl ?_
    refine WL.call0 guard_none rfl (YC.of E17 rfl) (mDivides _ _) rfl (trivial) ?_
    refine WL.nil ?_
    refine WE.then ?_
    refine WC.condD rfl (fun hc1 => ?_) (fun hc1 => ?_)
    · skip
      refine WC.seq ?_
      refine WC.region ?_
      refine WL.y0' guard_none (Y0.assign rfl) rfl ?_
      refine WL.nil ?_
      refine WE.then ?_
      refine WC.ret ?_
      refine WE.inBlockRet ?_
      refine WE.thenRet ?_
      refine WE.thenRet ?_
      refine WE.inBlockRet ?_
      refine WE.thenRet ?_
      refine WE.ret1 rfl rfl ?_
      exact congrArg Value.bool (inM_yes hn hc1).symm
    · skip
      refine WC.skip ?_
      refine WE.inBlock ?_
      refine WE.then ?_
      refine WC.region ?_
      first | refine WL.y0' guard_none (Y0.addI rfl rfl (by omega)) rfl ?_ | refine WL.y0' guard_none (Y0.add rfl rfl) rfl ?_
      refine WL.y0' guard_none (Y0.move rfl) rfl ?_
      refine WL.nil ?_
      refine WE.backH (x + 1) ?_ ?_ ?_ ?_
      · exact ⟨by omega, step_all hall hn hc1⟩
      · exact Fr.sub_cons rfl (Fr.sub_cons rfl (Fr.sub_cons rfl (Fr.sub_cons rfl (Fr.sub_nil _))))
      · exact St.conseqL (Lo.sub_cons (rfl) (Lo.sub_nil _))
      · omega
  · skip
    refine WL.nil ?_
    refine WE.then ?_
    refine WC.seq ?_
    refine WC.condF rfl ?_
    refine WC.exit ?_
    refine WE.thenExit ?_
    refine WE.thenExit ?_
    refine WE.exitHere ?_
    refine WE.then ?_
    refine WC.seq ?_
    refine WC.region ?_
    refine WL.y0' guard_none (Y0.assign rfl) rfl ?_
    refine WL.nil ?_
    refine WE.then ?_
    refine WC.ret ?_
    refine WE.ret1 rfl rfl ?_
    exact congrArg Value.bool (inM_no (fun i hi => hall i hi (by omega))).symm

theorem rSame (v u : Value) (l r : List M) : Ctr Try.prog 35 #[v, u] (fun G => SlM G v l ∧ SlM G u r) (fun _ r0 => r0 = .bool (decide (l = r))) := by
  refine Ctr.enter (args := [_, _]) (N := 26) Try.func35 rfl rfl rfl (fun w0 G0 hL0 hpre => ?_)
  obtain ⟨⟨p, cap, b, off, rfl, hmax, hp1, hp2, hcell⟩, ⟨q, cap2, b2, off2, rfl, hmax2, hq1, hq2, hcell2⟩⟩ := hpre
  refine WC.seq ?_
  refine WC.region ?_
  refine WL.y0' guard_none (Y0.assign rfl) rfl ?_
  refine WL.nil ?_
  refine WE.then ?_
  refine WC.seq ?_
  refine WC.seq ?_
  refine WC.region ?_
  refine WL.y0' guard_none (Y0.move rfl) rfl ?_
  refine WL.y0' guard_none (Y0.lenSl Try.underlying42 rfl) rfl ?_
  refine WL.y0' guard_none (Y0.move rfl) rfl ?_
  refine WL.y0' guard_none (Y0.lenSl Try.underlying42 rfl) rfl ?_
  refine WL.caseY0 guard_none (Y0.neq rfl rfl) rfl (fun h10 => ?_) (fun h10 => ?_)
  · skip
    refine WL.nil ?_
    refine WE.then ?_
    refine WC.condT rfl ?_
    refine WC.seq ?_
    refine WC.region ?_
    refine WL.y0' guard_none (Y0.assign rfl) rfl ?_
    refine WL.nil ?_
    refine WE.then ?_
    refine WC.ret ?_
    refine WE.thenRet ?_
    refine WE.ret1 rfl rfl ?_
    exact congrArg Value.bool (decide_eq_false (fun e => h10 (by rw [e]))).symm
  · skip
    refine WL.nil ?_
    refine WE.then ?_
    refine WC.condF rfl ?_
    refine WC.skip ?_
    refine WE.then ?_
    refine WC.seq ?_
    refine WC.seq ?_
    refine WC.region ?_
    refine WL.y0' guard_none (Y0.assign rfl) rfl ?_
    refine WL.nil ?_
    refine WE.then ?_
    refine WC.block ?_
    refine WC.loopH (fun (x : Nat) => [(0, .slice p l.length cap), (1, .slice q r.length cap2), (5, .int .i64 (x : Int))]) (fun (x : Nat) => x ≤ l.length ∧ ∀ (i : Nat) (h1 : i < l.length), i < x → ∀ (h2 : i < r.length), l[i] = r[i]) (fun (x : Nat) => St w0 G0 G0 []) (fun (x : Nat) => l.length - x) 0 ?_ ?_ ?_ ?_
    · exact Fr.sub_cons rfl (Fr.sub_cons rfl (Fr.sub_cons rfl (Fr.sub_nil _)))
    · exact ⟨by omega, fun i _ h => by omega⟩
    · exact St.conseqL (Lo.sub_nil _)
    rintro x hx
    obtain ⟨hk, hall⟩ := hx
    refine WC.seq ?_
    refine WC.seq ?_
    refine WC.region ?_
    refine WL.y0' guard_none (Y0.move rfl) rfl ?_
    refine WL.y0' guard_none (Y0.move rfl) rfl ?_
    refine WL.y0' guard_none (Y0.lenSl Try.underlying42 rfl) rfl ?_
    refine WL.caseY0 guard_none (Y0.lss rfl rfl) rfl (fun h14 => ?_) (fun h14 => ?_)
    · skip
      have hn : x < l.length := by omega
      have hn2 : x < r.length := by omega
      have hp := hp2 (by omega)
      subst hp
      have hq := hq2 (by omega)
      subst hq
      refine WL.nil ?_
      refine WE.then ?_
      refine WC.condT rfl ?_
      refine WC.skip ?_
      refine WE.then ?_
      refine WC.seq ?_
      refine WC.block ?_
      refine WC.seq ?_
      refine WC.drawn [false, false, false, false, false, false, false, false, false] mix (by kernel_rfl) (fun hb => ?_)
      refine Chain.y0 guard_none (fun _ hle => Y0.move rfl) ?_
      refine Chain.y0 guard_none (fun _ hle => Y0.move rfl) ?_
      first | refine Chain.y0 guard_none (fun _ hle => Y0.idxSlN Try.underlying42 sz27 rfl rfl (by omega)) ?_ | refine Chain.y0 guard_none (fun _ hle => Y0.idxSl Try.underlying42 sz27 rfl rfl (by omega)) ?_
      refine Chain.y0 guard_none (fun _ hle => Y0.loadGA _ ag27 rfl rfl (fun j v hv => hle _ _ _ (SlM.cells hcell hn j v hv))) ?_
      refine Chain.y0 guard_none (fun _ hle => Y0.move rfl) ?_
      refine Chain.y0 guard_none (fun _ hle => Y0.move rfl) ?_
      first | refine Chain.y0 guard_none (fun _ hle => Y0.idxSlN Try.underlying42 sz27 rfl rfl (by omega)) ?_ | refine Chain.y0 guard_none (fun _ hle => Y0.idxSl Try.underlying42 sz27 rfl rfl (by omega)) ?_
      refine Chain.y0 guard_none (fun _ hle => Y0.loadGA _ ag27 rfl rfl (fun j v hv => hle _ _ _ (SlM.cells hcell2 hn2 j v hv))) ?_
      refine Chain.caseY0 guard_none (fun _ hle => Y0.neqM Try.underlying27 Try.underlying3 sc3 sz3 eg27 rfl rfl) (fun h25 => ?_) (fun h25 => ?_)
      · skip
        refine Chain.tail0 hb ?_
        refine WL.nil ?_
        refine WE.nx ?_
        refine WE.then ?_
        refine WC.condT rfl ?_
        refine WC.seq ?_
        refine WC.region ?_
        refine WL.y0' guard_none (Y0.assign rfl) rfl ?_
        refine WL.nil ?_
        refine WE.then ?_
        refine WC.ret ?_
        refine WE.inBlockRet ?_
        refine WE.thenRet ?_
        refine WE.thenRet ?_
        refine WE.inBlockRet ?_
        refine WE.thenRet ?_
        refine WE.ret1 rfl rfl ?_
        exact congrArg Value.bool (decide_eq_false (fun e => h25 (by subst e; rfl))).symm
      · skip
        refine Chain.tail0 hb ?_
        refine WL.nil ?_
        refine WE.nx ?_
        refine WE.then ?_
        refine WC.condF rfl ?_
        refine WC.skip ?_
        refine WE.inBlock ?_
        refine WE.then ?_
        refine WC.region ?_
        refine WL.y0' guard_none (Y0.move rfl) rfl ?_
        first | refine WL.y0' guard_none (Y0.addI rfl rfl (by omega)) rfl ?_ | refine WL.y0' guard_none (Y0.add rfl rfl) rfl ?_
        refine WL.y0' guard_none (Y0.assign rfl) rfl ?_
        refine WL.nil ?_
        refine WE.backH (x + 1) ?_ ?_ ?_ ?_
        · exact ⟨by omega, step_all hall hn (fun _ => Classical.not_not.1 h25)⟩
        · exact Fr.sub_cons rfl (Fr.sub_cons rfl (Fr.sub_cons rfl (Fr.sub_nil _)))
        · exact St.conseqL (Lo.sub_nil _)
        · omega
    · skip
      refine WL.nil ?_
      refine WE.then ?_
      refine WC.condF rfl ?_
      refine WC.exit ?_
      refine WE.thenExit ?_
      refine WE.thenExit ?_
      refine WE.exitHere ?_
      refine WE.then ?_
      refine WC.seq ?_
      refine WC.region ?_
      refine WL.y0' guard_none (Y0.assign rfl) rfl ?_
      refine WL.nil ?_
      refine WE.then ?_
      refine WC.ret ?_
      refine WE.ret1 rfl rfl ?_
      exact congrArg Value.bool (decide_eq_true (same_of (by omega) (fun i h1 h2 => hall i h1 (by omega) h2))).symm

theorem rList (v : Value) (l : List M) (mo : Nat) (hmo : mo ≤ 1000) (hmade : ∀ m ∈ l, Ok m) : Ctr Try.prog 32 #[v, .int .i64 (mo : Int)] (fun G => SlU G v l) (fun G r => SlM G r (l.take mo)) := by
  refine Ctr.enter (args := [_, _]) (N := 28) Try.func32 rfl rfl rfl (fun w0 G0 hL0 hpre => ?_)
  obtain ⟨p, cap, b, off, rfl, hmax, hp2, hcell⟩ := hpre
  refine WC.seq ?_
  refine WC.region ?_
  refine WL.y0' guard_none (Y0.assign rfl) rfl ?_
  refine WL.nil ?_
  refine WE.then ?_
  refine WC.seq ?_
  refine WC.region ?_
  refine WL.buildSl 7 guard_none rfl (vs := #[]) rfl rfl be42 (fun b7 => ?_)
  refine WL.y0' guard_none (Y0.assign rfl) rfl ?_
  refine WL.nil ?_
  refine WE.then ?_
  refine WC.seq ?_
  refine WC.seq ?_
  refine WC.region ?_
  refine WL.y0' guard_none (Y0.assign rfl) rfl ?_
  refine WL.nil ?_
  refine WE.then ?_
  refine WC.block ?_
  refine WC.loopH (fun (gst : Nat × Option Row) => match gst with | ⟨x, ov⟩ => [(0, .slice p l.length cap), (1, .int .i64 (mo : Int)), (5, rowV ov x), (6, .int .i64 (x : Int))]) (fun (gst : Nat × Option Row) => match gst with | ⟨x, ov⟩ => x ≤ l.length ∧ x ≤ mo ∧ RowOk 8 ov x (flat (l.take x))) (fun (gst : Nat × Option Row) => match gst with | ⟨x, ov⟩ => St w0 G0 G0 ([] ++ rowL 7 27 ov)) (fun (gst : Nat × Option Row) => match gst with | ⟨x, ov⟩ => l.length - x) ⟨0, some ⟨b7, 0, #[]⟩⟩ ?_ ?_ ?_ ?_
  · exact Fr.sub_cons rfl (Fr.sub_cons rfl (Fr.sub_cons rfl (Fr.sub_cons rfl (Fr.sub_nil _))))
  · exact ⟨by omega, by omega, ⟨rfl, by omega, by simp only [maxLen]; omega, rfl, rfl⟩⟩
  · intro w hs; exact hs
  rintro ⟨x, ov⟩ hx
  obtain ⟨hk, hk2, hok⟩ := hx
  refine WC.seq ?_
  refine WC.seq ?_
  refine WC.region ?_
  refine WL.y0' guard_none (Y0.move rfl) rfl ?_
  refine WL.y0' guard_none (Y0.move rfl) rfl ?_
  refine WL.y0' guard_none (Y0.lenSl Try.underlying47 rfl) rfl ?_
  refine WL.caseY0 guard_none (Y0.lss rfl rfl) rfl (fun h11 => ?_) (fun h11 => ?_)
  · skip
    have hn : x < l.length := by omega
    have hp := hp2 (by omega)
    subst hp
    have hox := hmade l[x] (List.getElem_mem hn)
    refine WL.y0' guard_none (Y0.move rfl) rfl ?_
    refine WL.y0' (guard_yes rfl rfl) (Y0.move rfl) rfl ?_
    refine WL.y0' (guard_yes rfl rfl) (Y0.move rfl) rfl ?_
    refine WL.caseY0 (guard_yes rfl rfl) (Y0.lss rfl rfl) rfl (fun h15 => ?_) (fun h15 => ?_)
    · skip
      refine WL.y0' guard_none (Y0.pickT rfl rfl) rfl ?_
      refine WL.nil ?_
      refine WE.then ?_
      refine WC.condT rfl ?_
      refine WC.skip ?_
      refine WE.then ?_
      refine WC.seq ?_
      refine WC.block ?_
      refine WC.region ?_
      refine WL.y0' guard_none (Y0.move rfl) rfl ?_
      refine WL.y0' guard_none (Y0.move rfl) rfl ?_
      refine WL.y0' guard_none (Y0.move rfl) rfl ?_
      first | refine WL.y0' guard_none (Y0.idxSlN Try.underlying47 sz24 rfl rfl (by omega)) rfl ?_ | refine WL.y0' guard_none (Y0.idxSl Try.underlying47 sz24 rfl rfl (by omega)) rfl ?_
      refine WL.y0' guard_none (Y0.loadGA _ ag24 rfl rfl (SlU.cells hcell hn)) rfl ?_
      refine WL.call0 guard_none rfl (YC.of E12 rfl) (rMade _ (by assumption)) rfl (trivial) ?_
      refine WL.buildSl 25 guard_none rfl (vs := #[(0, .agg (vecA _))]) rfl rfl (bs42 _) (fun b25 => ?_)
      refine WL.append 7 [(25, b25, .cells (vecA _) 27 (0, 0))] guard_none rfl Try.underlying42 el27 rfl rfl rfl (fun _ h => h) rfl hok (Src.ofL (i := 25) rfl) rfl (vecA_cell _) (by simp only [maxLen]; omega) (by omega) (fun ov1 hok1 => ?_)
      refine WL.y0' guard_none (Y0.assign rfl) rfl ?_
      refine WL.nil ?_
      refine WE.inBlock ?_
      refine WE.then ?_
      refine WC.region ?_
      refine WL.y0' guard_none (Y0.move rfl) rfl ?_
      first | refine WL.y0' guard_none (Y0.addI rfl rfl (by omega)) rfl ?_ | refine WL.y0' guard_none (Y0.add rfl rfl) rfl ?_
      refine WL.y0' guard_none (Y0.assign rfl) rfl ?_
      refine WL.nil ?_
      refine WE.backH ⟨x + 1, ov1⟩ ?_ ?_ ?_ ?_
      · exact ⟨by omega, by omega, by rw [take_next hn, flat_append, flat_one]; exact hok1⟩
      · exact Fr.sub_cons rfl (Fr.sub_cons rfl (Fr.sub_cons rfl (Fr.sub_cons rfl (Fr.sub_nil _))))
      · exact St.conseqL (Lo.sub_app (Lo.sub_nil _) rfl)
      · dsimp only; omega
    · skip
      refine WL.y0' guard_none (Y0.pickT rfl rfl) rfl ?_
      refine WL.nil ?_
      refine WE.then ?_
      refine WC.condF rfl ?_
      refine WC.exit ?_
      refine WE.thenExit ?_
      refine WE.thenExit ?_
      refine WE.exitHere ?_
      refine WE.then ?_
      refine WC.seq ?_
      refine WC.region ?_
      refine WL.y0' guard_none (Y0.move rfl) rfl ?_
      refine WL.y0' guard_none (Y0.assign rfl) rfl ?_
      refine WL.nil ?_
      refine WE.then ?_
      refine WC.ret ?_
      have hx2 : x = (l.take mo).length := by simp; omega
      have hok2 : RowOk 8 ov (l.take mo).length (flat (l.take mo)) := by rw [← hx2]; have e : l.take mo = l.take x := by { first | (rw [List.take_of_length_le (by omega), List.take_of_length_le (by omega)]) | (congr 1; omega) }; rw [e]; exact hok
      refine WE.give rfl (by rw [hL0]; rfl) hok2 (fun G1 hle1 hsl => ?_)
      rw [← hx2] at hsl
      refine WE.ret1 rfl rfl ?_
      exact hsl
  · skip
    refine WL.y0' guard_none (Y0.move rfl) rfl ?_
    refine WL.skip (guard_noT rfl rfl) rfl ?_
    refine WL.skip (guard_noT rfl rfl) rfl ?_
    refine WL.skip (guard_noT rfl rfl) rfl ?_
    refine WL.y0' guard_none (Y0.pickF rfl rfl) rfl ?_
    refine WL.nil ?_
    refine WE.then ?_
    refine WC.condF rfl ?_
    refine WC.exit ?_
    refine WE.thenExit ?_
    refine WE.thenExit ?_
    refine WE.exitHere ?_
    refine WE.then ?_
    refine WC.seq ?_
    refine WC.region ?_
    refine WL.y0' guard_none (Y0.move rfl) rfl ?_
    refine WL.y0' guard_none (Y0.assign rfl) rfl ?_
    refine WL.nil ?_
    refine WE.then ?_
    refine WC.ret ?_
    have hx2 : x = (l.take mo).length := by simp; omega
    have hok2 : RowOk 8 ov (l.take mo).length (flat (l.take mo)) := by rw [← hx2]; have e : l.take mo = l.take x := by { first | (rw [List.take_of_length_le (by omega), List.take_of_length_le (by omega)]) | (congr 1; omega) }; rw [e]; exact hok
    refine WE.give rfl (by rw [hL0]; rfl) hok2 (fun G1 hle1 hsl => ?_)
    rw [← hx2] at hsl
    refine WE.ret1 rfl rfl ?_
    exact hsl

theorem sClone (v : Value) (l : List M) (hlen : l.length ≤ 1000000) : CtrL Try.prog 39 #[v] [] (fun G => SlM G v l) (fun G L r => ∃ ov, r = rowV ov l.length ∧ RowOk 8 ov l.length (flat l) ∧ L = rowL 5 27 ov) := by
  refine CtrL.enter (args := [_]) (N := 8) Try.func39 rfl rfl rfl (fun w0 G0 hL0 hpre => ?_)
  obtain ⟨p, cap, b, off, rfl, hmax, hp1, hp2, hcell⟩ := hpre
  refine WC.seq ?_
  refine WC.region ?_
  refine WL.y0' guard_none (Y0.assign rfl) rfl ?_
  refine WL.nil ?_
  refine WE.then ?_
  refine WC.seq ?_
  refine WC.seq ?_
  refine WC.region ?_
  refine WL.y0' guard_none (Y0.move rfl) rfl ?_
  refine WL.caseY0 guard_none (Y0.eqlNil Try.underlying42 rfl rfl) rfl (fun h4 => ?_) (fun h4 => ?_)
  · skip
    subst h4
    have hl0 : l.length = 0 := by
      rcases Nat.eq_zero_or_pos l.length with h | h
      · exact h
      · have := hp2 h; cases this
    have hnil : l = [] := List.eq_nil_of_length_eq_zero hl0
    subst hnil
    refine WL.nil ?_
    refine WE.then ?_
    refine WC.condT rfl ?_
    refine WC.seq ?_
    refine WC.region ?_
    refine WL.y0' guard_none (Y0.assign rfl) rfl ?_
    refine WL.nil ?_
    refine WE.then ?_
    refine WC.ret ?_
    refine WE.thenRet ?_
    refine WE.ret1 rfl rfl ?_
    exact ⟨none, rfl, ⟨rfl, rfl⟩, rfl⟩
  · skip
    refine WL.nil ?_
    refine WE.then ?_
    refine WC.condF rfl ?_
    refine WC.skip ?_
    refine WE.then ?_
    refine WC.seq ?_
    refine WC.region ?_
    refine WL.buildSl 5 guard_none rfl (vs := #[]) rfl rfl be42 (fun b5 => ?_)
    refine WL.y0' guard_none (Y0.move rfl) rfl ?_
    have hsrc : Src (St w0 G0 G0 ([] ++ rowL 5 27 (some ⟨b5, 0, #[]⟩))) p l.length (flat l) := by
      by_cases h0 : 0 < l.length
      · rw [hp2 h0]; exact Src.ofG (SlM.src hcell)
      · exact .inl ⟨by omega, fun a ha => ⟨b, off, hp1 a ha⟩⟩
    refine WL.append 5 [] guard_none rfl Try.underlying42 el27 rfl (ov := some ⟨b5, 0, #[]⟩) (n := 0) (xs := []) rfl rfl (fun _ h => h) rfl ⟨rfl, by omega, by simp only [maxLen]; omega, rfl, rfl⟩ hsrc (flat_length l) (flat_one_cell l) (by simp only [maxLen]; omega) (by omega) (fun ov1 hok1 => ?_)
    refine WL.y0' guard_none (Y0.assign rfl) rfl ?_
    refine WL.nil ?_
    refine WE.then ?_
    refine WC.ret ?_
    refine WE.ret1 rfl rfl ?_
    exact ⟨ov1, by rw [Nat.zero_add], by simpa using hok1, rfl⟩

theorem sReverse (b cap : Nat) (l : List M) (rest : List Value) (h0 : 0 < l.length) (hmax : l.length ≤ 1000000) : CtrL Try.prog 42 #[.slice (some ⟨b, 0, none⟩) l.length cap] [(1, b, .cells (flat l ++ rest).toArray 27 (0, 0))] (fun G => True) (fun G L r => L = [(1, b, .cells (flat l.reverse ++ rest).toArray 27 (0, 0))] ∧ r = .tuple #[]) := by
  refine CtrL.enter (args := [_]) (N := 28) Try.func42 rfl rfl rfl (fun w0 G0 hL0 hpre => ?_)
  refine WC.seq ?_
  refine WC.region ?_
  refine WL.y0' guard_none (Y0.move rfl) rfl ?_
  refine WL.y0' guard_none (Y0.lenSl Try.underlying42 rfl) rfl ?_
  first | refine WL.y0' guard_none (Y0.subI rfl rfl (by omega)) rfl ?_ | refine WL.y0' guard_none (Y0.sub rfl rfl) rfl ?_
  refine WL.y0' guard_none (Y0.assign rfl) rfl ?_
  refine WL.y0' guard_none (Y0.assign rfl) rfl ?_
  refine WL.nil ?_
  refine WE.then ?_
  refine WC.block ?_
  refine WC.loopH (fun (gst : Nat × Nat × List M) => match gst with | ⟨x, j, c⟩ => [(0, .slice (some ⟨b, 0, none⟩) l.length cap), (2, .int .i64 (x : Int)), (3, .int .i64 (j : Int))]) (fun (gst : Nat × Nat × List M) => match gst with | ⟨x, j, c⟩ => x + j + 1 = l.length ∧ RevSt l c x) (fun (gst : Nat × Nat × List M) => match gst with | ⟨x, j, c⟩ => St w0 G0 G0 [(1, b, .cells (flat c ++ rest).toArray 27 (0, 0))]) (fun (gst : Nat × Nat × List M) => match gst with | ⟨x, j, c⟩ => l.length - x) ⟨0, l.length - 1, l⟩ ?_ ?_ ?_ ?_
  · exact Fr.sub_cons rfl (Fr.sub_cons rfl (Fr.sub_cons (congrArg (fun z => some (Value.int .i64 z)) (by omega : (l.length : Int) - 1 = ((l.length - 1 : Nat) : Int))) (Fr.sub_nil _)))
  · exact ⟨by omega, RevSt.start l⟩
  · intro w hs; exact hs
  rintro ⟨x, j, c⟩ hx
  obtain ⟨hj, hr⟩ := hx
  refine WC.seq ?_
  refine WC.seq ?_
  refine WC.region ?_
  refine WL.y0' guard_none (Y0.move rfl) rfl ?_
  refine WL.y0' guard_none (Y0.move rfl) rfl ?_
  refine WL.caseY0 guard_none (Y0.lss rfl rfl) rfl (fun h9 => ?_) (fun h9 => ?_)
  · skip
    have hxc : x < c.length := by rw [hr.len]; omega
    have hjc : j < c.length := by rw [hr.len]; omega
    have hfl := flat_length c
    have hfl2 := hr.len
    refine WL.nil ?_
    refine WE.then ?_
    refine WC.condT rfl ?_
    refine WC.skip ?_
    refine WE.then ?_
    refine WC.seq ?_
    refine WC.block ?_
    refine WC.drawn [false, false, true, true, false, false, false, false, false, false, false, false, false] mix (by kernel_rfl) (fun hb => ?_)
    refine Chain.y0 guard_none (fun _ hle => Y0.move rfl) ?_
    refine Chain.y0 guard_none (fun _ hle => Y0.move rfl) ?_
    refine Chain.float guard_none (Y0.move rfl) ?_
    refine Chain.float guard_none (Y0.move rfl) ?_
    refine Chain.y0 guard_none (fun _ hle => Y0.move rfl) ?_
    refine Chain.y0 guard_none (fun _ hle => Y0.move rfl) ?_
    refine Chain.y0 guard_none (fun _ hle => Y0.idxSlZ Try.underlying42 sz27 rfl rfl (by omega)) ?_
    refine Chain.y0 guard_none (fun _ hle => Y0.loadLP (vecA c[j]) 1 ag27 rfl rfl rfl (flat_cells c rest hjc)) ?_
    refine Chain.y0 guard_none (fun _ hle => Y0.move rfl) ?_
    refine Chain.y0 guard_none (fun _ hle => Y0.move rfl) ?_
    refine Chain.y0 guard_none (fun _ hle => Y0.idxSlZ Try.underlying42 sz27 rfl rfl (by omega)) ?_
    refine Chain.y0 guard_none (fun _ hle => Y0.loadLP (vecA c[x]) 1 ag27 rfl rfl rfl (flat_cells c rest hxc)) ?_
    refine Chain.y0 guard_none (fun _ hle => Y0.idxSlZ Try.underlying42 sz27 rfl rfl (by omega)) ?_
    refine Chain.tail0 hb ?_
    refine WL.storeLP 1 guard_none sz27 rfl rfl rfl rfl (by simp; omega) rfl ?_
    refine WL.conseq (S' := St w0 G0 G0 [(1, b, .cells (flat (c.set x c[j]) ++ rest).toArray 27 (0, 0))]) (fun w hs => hs.weaken (Lo.sub_cons (congrArg (fun q => some (b, Obj.cells (List.toArray q) 27 (0, 0))) (flat_set c rest x (by first | omega | (simp; omega)) c[j])) (Lo.sub_nil _))) ?_
    refine WL.y0' guard_none (Y0.idxSlZ Try.underlying42 sz27 rfl rfl (by omega)) rfl ?_
    refine WL.storeLP 1 guard_none sz27 rfl rfl rfl rfl (by simp [flat_length]; omega) rfl ?_
    refine WL.conseq (S' := St w0 G0 G0 [(1, b, .cells (flat ((c.set x c[j]).set j c[x]) ++ rest).toArray 27 (0, 0))]) (fun w hs => hs.weaken (Lo.sub_cons (congrArg (fun q => some (b, Obj.cells (List.toArray q) 27 (0, 0))) (flat_set (c.set x c[j]) rest j (by first | omega | (simp; omega)) c[x])) (Lo.sub_nil _))) ?_
    refine WL.nil ?_
    refine WE.nx ?_
    refine WE.inBlock ?_
    refine WE.then ?_
    refine WC.region ?_
    refine WL.y0' guard_none (Y0.move rfl) rfl ?_
    first | refine WL.y0' guard_none (Y0.addI rfl rfl (by omega)) rfl ?_ | refine WL.y0' guard_none (Y0.add rfl rfl) rfl ?_
    refine WL.y0' guard_none (Y0.move rfl) rfl ?_
    first | refine WL.y0' guard_none (Y0.subI rfl rfl (by omega)) rfl ?_ | refine WL.y0' guard_none (Y0.sub rfl rfl) rfl ?_
    refine WL.y0' guard_none (Y0.assign rfl) rfl ?_
    refine WL.y0' guard_none (Y0.assign rfl) rfl ?_
    refine WL.nil ?_
    refine WE.backH ⟨x + 1, j - 1, (c.set x c[j]).set j c[x]⟩ ?_ ?_ ?_ ?_
    · exact ⟨by omega, hr.step hj (by omega) hxc hjc⟩
    · exact Fr.sub_cons rfl (Fr.sub_cons rfl (Fr.sub_cons (congrArg (fun z => some (Value.int .i64 z)) (by omega : (j : Int) - 1 = ((j - 1 : Nat) : Int))) (Fr.sub_nil _)))
    · intro w hs; exact hs
    · dsimp only; omega
  · skip
    refine WL.nil ?_
    refine WE.then ?_
    refine WC.condF rfl ?_
    refine WC.exit ?_
    refine WE.thenExit ?_
    refine WE.thenExit ?_
    refine WE.exitHere ?_
    refine WE.retN ?_
    refine WE.ret0 rfl  ?_
    refine ⟨?_, rfl⟩
    rw [hr.done hj (by omega)]

end Go.Proofs.Ytdpmpefjplfgbaa
