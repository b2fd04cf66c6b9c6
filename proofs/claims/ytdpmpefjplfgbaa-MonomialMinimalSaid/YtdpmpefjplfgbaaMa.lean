/- Contracts of the functions on monomials: each returns what its statement says, in new memory, and leaves all else. The conditions stand in each statement. -/
import Derived.Test.YtdpmpefjplfgbaaFa
namespace Go.Proofs.Ytdpmpefjplfgbaa
open Go Go.EL Go.RowKit

theorem mDivides (a b : M) : Ctr Try.prog 17 #[.agg (vecA a), .agg (vecA b)] (fun G => True) (fun G r => r = .bool (decide (dvdM a b))) := by
  refine Ctr.enter (args := [_, _]) (N := 17) Try.func17 rfl rfl rfl (fun w0 G0 hL0 hpre => ?_)
  refine WC.seq ?_
  refine WC.region ?_
  refine WL.box 2 guard_none rfl rfl (fun b2 => ?_)
  refine WL.box 3 guard_none rfl rfl (fun b3 => ?_)
  refine WL.y0' guard_none (Y0.assign rfl) rfl ?_
  refine WL.nil ?_
  refine WE.then ?_
  refine WC.seq ?_
  refine WC.seq ?_
  refine WC.region ?_
  refine WL.y0' guard_none (Y0.move rfl) rfl ?_
  refine WL.nil ?_
  refine WE.then ?_
  refine WC.block ?_
  refine WC.loopH (fun (x : Nat) => [(2, .pointer (some ⟨b2, 0, none⟩)), (3, .pointer (some ⟨b3, 0, none⟩)), (6, .int .i64 (x : Int))]) (fun (x : Nat) => x ≤ 8 ∧ ∀ i : Fin 8, i.val < x → a i ≤ b i) (fun (x : Nat) => St w0 G0 G0 [(2, b2, .cells (vecA a) 27 (0, 0)), (3, b3, .cells (vecA b) 27 (0, 0))]) (fun (x : Nat) => 8 - x) 0 ?_ ?_ ?_ ?_
  · exact Fr.sub_cons rfl (Fr.sub_cons rfl (Fr.sub_cons rfl (Fr.sub_nil _)))
  · exact ⟨by omega, fun i h => by omega⟩
  · exact St.conseqL (Lo.sub_cons (rfl) (Lo.sub_cons (rfl) (Lo.sub_nil _)))
  rintro x hx
  obtain ⟨hk, hall⟩ := hx
  refine WC.seq ?_
  refine WC.region ?_
  refine WL.caseY0 guard_none (Y0.lss rfl rfl) rfl (fun h7 => ?_) (fun h7 => ?_)
  · skip
    have hn : x < 8 := by omega
    refine WL.nil ?_
    refine WE.then ?_
    refine WC.seq ?_
    refine WC.condT rfl ?_
    refine WC.skip ?_
    refine WE.then ?_
    refine WC.seq ?_
    refine WC.block ?_
    refine WC.seq ?_
    refine WC.region ?_
    refine WL.y0' guard_none (Y0.move rfl) rfl ?_
    refine WL.y0' guard_none (Y0.assign rfl) rfl ?_
    refine WL.nil ?_
    refine WE.then ?_
    refine WC.seq ?_
    refine WC.drawn [false, false, false, false, false, false, false] mix (by kernel_rfl) (fun hb => ?_)
    refine Chain.y0 guard_none (fun _ hle => Y0.move rfl) ?_
    first | refine Chain.y0 guard_none (fun _ hle => Y0.idxArr1 Try.underlying27 sz3 rfl rfl (by omega)) ?_ | refine Chain.y0 guard_none (fun _ hle => Y0.idxArr Try.underlying27 sz3 rfl rfl (by omega)) ?_
    refine Chain.y0 guard_none (fun _ hle => Y0.loadL 2 sc3 rfl rfl (vecA_get _ hn)) ?_
    refine Chain.y0 guard_none (fun _ hle => Y0.move rfl) ?_
    first | refine Chain.y0 guard_none (fun _ hle => Y0.idxArr1 Try.underlying27 sz3 rfl rfl (by omega)) ?_ | refine Chain.y0 guard_none (fun _ hle => Y0.idxArr Try.underlying27 sz3 rfl rfl (by omega)) ?_
    refine Chain.y0 guard_none (fun _ hle => Y0.loadL 3 sc3 rfl rfl (vecA_get _ hn)) ?_
    refine Chain.caseY0 guard_none (fun _ hle => Y0.gtr rfl rfl) (fun h15 => ?_) (fun h15 => ?_)
    · skip
      refine Chain.tail0 hb ?_
      refine WL.nil ?_
      refine WE.nx ?_
      refine WE.then ?_
      refine WC.condT rfl ?_
      refine WC.seq ?_
      refine WC.region ?_
      refine WL.y0' guard_none (Y0.assign rfl) rfl ?_
      refine WL.nil ?_
      refine WE.then ?_
      refine WC.ret ?_
      refine WE.inBlockRet ?_
      refine WE.thenRet ?_
      refine WE.thenRet ?_
      refine WE.inBlockRet ?_
      refine WE.thenRet ?_
      refine WE.ret1 rfl rfl ?_
      exact congrArg Value.bool (decide_eq_false (fun h => by have := h ⟨x, hn⟩; omega)).symm
    · skip
      refine Chain.tail0 hb ?_
      refine WL.nil ?_
      refine WE.nx ?_
      refine WE.then ?_
      refine WC.condF rfl ?_
      refine WC.skip ?_
      refine WE.inBlock ?_
      refine WE.then ?_
      refine WC.region ?_
      first | refine WL.y0' guard_none (Y0.addI rfl rfl (by omega)) rfl ?_ | refine WL.y0' guard_none (Y0.add rfl rfl) rfl ?_
      refine WL.y0' guard_none (Y0.move rfl) rfl ?_
      refine WL.nil ?_
      refine WE.backH (x + 1) ?_ ?_ ?_ ?_
      · exact ⟨by omega, all_step hall hn (by omega)⟩
      · exact Fr.sub_cons rfl (Fr.sub_cons rfl (Fr.sub_cons rfl (Fr.sub_nil _)))
      · exact St.conseqL (Lo.sub_cons (rfl) (Lo.sub_cons (rfl) (Lo.sub_nil _)))
      · omega
  · skip
    refine WL.nil ?_
    refine WE.then ?_
    refine WC.seq ?_
    refine WC.condF rfl ?_
    refine WC.exit ?_
    refine WE.thenExit ?_
    refine WE.thenExit ?_
    refine WE.exitHere ?_
    refine WE.then ?_
    refine WC.seq ?_
    refine WC.region ?_
    refine WL.y0' guard_none (Y0.assign rfl) rfl ?_
    refine WL.nil ?_
    refine WE.then ?_
    refine WC.ret ?_
    refine WE.ret1 rfl rfl ?_
    exact congrArg Value.bool (decide_eq_true (fun i => hall i (by omega))).symm

theorem rDivides (a b : M) : Ctr Try.prog 18 #[.agg (vecA a), .agg (vecA b)] (fun G => True) (fun G r => r = .bool (decide (dvdM a b))) := by
  refine Ctr.enter (args := [_, _]) (N := 17) Try.func18 rfl rfl rfl (fun w0 G0 hL0 hpre => ?_)
  refine WC.seq ?_
  refine WC.region ?_
  refine WL.box 2 guard_none rfl rfl (fun b2 => ?_)
  refine WL.box 3 guard_none rfl rfl (fun b3 => ?_)
  refine WL.y0' guard_none (Y0.assign rfl) rfl ?_
  refine WL.nil ?_
  refine WE.then ?_
  refine WC.seq ?_
  refine WC.seq ?_
  refine WC.region ?_
  refine WL.y0' guard_none (Y0.assign rfl) rfl ?_
  refine WL.nil ?_
  refine WE.then ?_
  refine WC.block ?_
  refine WC.loopH (fun (x : Nat) => [(2, .pointer (some ⟨b2, 0, none⟩)), (3, .pointer (some ⟨b3, 0, none⟩)), (5, .int .i64 (x : Int))]) (fun (x : Nat) => x ≤ 8 ∧ ∀ i : Fin 8, i.val < x → a i ≤ b i) (fun (x : Nat) => St w0 G0 G0 [(2, b2, .cells (vecA a) 27 (0, 0)), (3, b3, .cells (vecA b) 27 (0, 0))]) (fun (x : Nat) => 8 - x) 0 ?_ ?_ ?_ ?_
  · exact Fr.sub_cons rfl (Fr.sub_cons rfl (Fr.sub_cons rfl (Fr.sub_nil _)))
  · exact ⟨by omega, fun i h => by omega⟩
  · exact St.conseqL (Lo.sub_cons (rfl) (Lo.sub_cons (rfl) (Lo.sub_nil _)))
  rintro x hx
  obtain ⟨hk, hall⟩ := hx
  refine WC.seq ?_
  refine WC.seq ?_
  refine WC.region ?_
  refine WL.y0' guard_none (Y0.move rfl) rfl ?_
  refine WL.caseY0 guard_none (Y0.lss rfl rfl) rfl (fun h7 => ?_) (fun h7 => ?_)
  · skip
    have hn : x < 8 := by omega
    refine WL.nil ?_
    refine WE.then ?_
    refine WC.condT rfl ?_
    refine WC.skip ?_
    refine WE.then ?_
    refine WC.seq ?_
    refine WC.block ?_
    refine WC.seq ?_
    refine WC.drawn [false, false, false, false, false, false, false] mix (by kernel_rfl) (fun hb => ?_)
    refine Chain.y0 guard_none (fun _ hle => Y0.move rfl) ?_
    first | refine Chain.y0 guard_none (fun _ hle => Y0.idxArr1 Try.underlying27 sz3 rfl rfl (by omega)) ?_ | refine Chain.y0 guard_none (fun _ hle => Y0.idxArr Try.underlying27 sz3 rfl rfl (by omega)) ?_
    refine Chain.y0 guard_none (fun _ hle => Y0.loadL 2 sc3 rfl rfl (vecA_get _ hn)) ?_
    refine Chain.y0 guard_none (fun _ hle => Y0.move rfl) ?_
    first | refine Chain.y0 guard_none (fun _ hle => Y0.idxArr1 Try.underlying27 sz3 rfl rfl (by omega)) ?_ | refine Chain.y0 guard_none (fun _ hle => Y0.idxArr Try.underlying27 sz3 rfl rfl (by omega)) ?_
    refine Chain.y0 guard_none (fun _ hle => Y0.loadL 3 sc3 rfl rfl (vecA_get _ hn)) ?_
    refine Chain.caseY0 guard_none (fun _ hle => Y0.gtr rfl rfl) (fun h16 => ?_) (fun h16 => ?_)
    · skip
      refine Chain.tail0 hb ?_
      refine WL.nil ?_
      refine WE.nx ?_
      refine WE.then ?_
      refine WC.condT rfl ?_
      refine WC.seq ?_
      refine WC.region ?_
      refine WL.y0' guard_none (Y0.assign rfl) rfl ?_
      refine WL.nil ?_
      refine WE.then ?_
      refine WC.ret ?_
      refine WE.inBlockRet ?_
      refine WE.thenRet ?_
      refine WE.thenRet ?_
      refine WE.inBlockRet ?_
      refine WE.thenRet ?_
      refine WE.ret1 rfl rfl ?_
      exact congrArg Value.bool (decide_eq_false (fun h => by have := h ⟨x, hn⟩; omega)).symm
    · skip
      refine Chain.tail0 hb ?_
      refine WL.nil ?_
      refine WE.nx ?_
      refine WE.then ?_
      refine WC.condF rfl ?_
      refine WC.skip ?_
      refine WE.inBlock ?_
      refine WE.then ?_
      refine WC.region ?_
      refine WL.y0' guard_none (Y0.move rfl) rfl ?_
      first | refine WL.y0' guard_none (Y0.addI rfl rfl (by omega)) rfl ?_ | refine WL.y0' guard_none (Y0.add rfl rfl) rfl ?_
      refine WL.y0' guard_none (Y0.assign rfl) rfl ?_
      refine WL.nil ?_
      refine WE.backH (x + 1) ?_ ?_ ?_ ?_
      · exact ⟨by omega, all_step hall hn (by omega)⟩
      · exact Fr.sub_cons rfl (Fr.sub_cons rfl (Fr.sub_cons rfl (Fr.sub_nil _)))
      · exact St.conseqL (Lo.sub_cons (rfl) (Lo.sub_cons (rfl) (Lo.sub_nil _)))
      · omega
  · skip
    refine WL.nil ?_
    refine WE.then ?_
    refine WC.condF rfl ?_
    refine WC.exit ?_
    refine WE.thenExit ?_
    refine WE.thenExit ?_
    refine WE.exitHere ?_
    refine WE.then ?_
    refine WC.seq ?_
    refine WC.region ?_
    refine WL.y0' guard_none (Y0.assign rfl) rfl ?_
    refine WL.nil ?_
    refine WE.then ?_
    refine WC.ret ?_
    refine WE.ret1 rfl rfl ?_
    exact congrArg Value.bool (decide_eq_true (fun i => hall i (by omega))).symm

theorem mValid (a : M) : Ctr Try.prog 29 #[.agg (vecA a)] (fun G => True) (fun G r => r = .bool (decide (Ok a))) := by
  refine Ctr.enter (args := [_]) (N := 16) Try.func29 rfl rfl rfl (fun w0 G0 hL0 hpre => ?_)
  refine WC.seq ?_
  refine WC.region ?_
  refine WL.box 1 guard_none rfl rfl (fun b1 => ?_)
  refine WL.y0' guard_none (Y0.assign rfl) rfl ?_
  refine WL.nil ?_
  refine WE.then ?_
  refine WC.seq ?_
  refine WC.seq ?_
  refine WC.region ?_
  refine WL.y0' guard_none (Y0.loadLA 1 ag27 rfl rfl rfl) rfl ?_
  refine WL.y0' guard_none (Y0.move rfl) rfl ?_
  refine WL.nil ?_
  refine WE.then ?_
  refine WC.block ?_
  refine WC.loopH (fun (x : Nat) => [(1, .pointer (some ⟨b1, 0, none⟩)), (6, .int .i64 (x : Int)), (5, .agg (vecA a))]) (fun (x : Nat) => x ≤ 8 ∧ ∀ i : Fin 8, i.val < x → (0 ≤ a i ∧ a i ≤ 65535)) (fun (x : Nat) => St w0 G0 G0 [(1, b1, .cells (vecA a) 27 (0, 0))]) (fun (x : Nat) => 8 - x) 0 ?_ ?_ ?_ ?_
  · exact Fr.sub_cons rfl (Fr.sub_cons rfl (Fr.sub_cons rfl (Fr.sub_nil _)))
  · exact ⟨by omega, fun i h => by omega⟩
  · exact St.conseqL (Lo.sub_cons (rfl) (Lo.sub_nil _))
  rintro x hx
  obtain ⟨hk, hall⟩ := hx
  refine WC.seq ?_
  refine WC.region ?_
  refine WL.caseY0 guard_none (Y0.lss rfl rfl) rfl (fun h7 => ?_) (fun h7 => ?_)
  · skip
    have hn : x < 8 := by omega
    refine WL.nil ?_
    refine WE.then ?_
    refine WC.seq ?_
    refine WC.condT rfl ?_
    refine WC.skip ?_
    refine WE.then ?_
    refine WC.seq ?_
    refine WC.block ?_
    refine WC.seq ?_
    refine WC.region ?_
    refine WL.y0' guard_none (Y0.index Try.underlying27 sc3 sz3 rfl rfl (by omega) (vecA_get _ hn)) rfl ?_
    refine WL.y0' guard_none (Y0.assign rfl) rfl ?_
    refine WL.nil ?_
    refine WE.then ?_
    refine WC.seq ?_
    refine WC.region ?_
    refine WL.y0' guard_none (Y0.move rfl) rfl ?_
    refine WL.caseY0 guard_none (Y0.lss rfl rfl) rfl (fun h10 => ?_) (fun h10 => ?_)
    · skip
      refine WL.y0' guard_none (Y0.move rfl) rfl ?_
      refine WL.skip (guard_noF rfl rfl) rfl ?_
      refine WL.skip (guard_noF rfl rfl) rfl ?_
      refine WL.y0' guard_none (Y0.pickT rfl rfl) rfl ?_
      refine WL.nil ?_
      refine WE.then ?_
      refine WC.condT rfl ?_
      refine WC.seq ?_
      refine WC.region ?_
      refine WL.y0' guard_none (Y0.assign rfl) rfl ?_
      refine WL.nil ?_
      refine WE.then ?_
      refine WC.ret ?_
      refine WE.inBlockRet ?_
      refine WE.thenRet ?_
      refine WE.thenRet ?_
      refine WE.inBlockRet ?_
      refine WE.thenRet ?_
      refine WE.ret1 rfl rfl ?_
      exact congrArg Value.bool (decide_eq_false (fun h => by have := h ⟨x, hn⟩; omega)).symm
    · skip
      refine WL.y0' guard_none (Y0.move rfl) rfl ?_
      refine WL.y0' (guard_yes rfl rfl) (Y0.move rfl) rfl ?_
      refine WL.caseY0 (guard_yes rfl rfl) (Y0.gtr rfl rfl) rfl (fun h13 => ?_) (fun h13 => ?_)
      · skip
        refine WL.y0' guard_none (Y0.pickF rfl rfl) rfl ?_
        refine WL.nil ?_
        refine WE.then ?_
        refine WC.condT rfl ?_
        refine WC.seq ?_
        refine WC.region ?_
        refine WL.y0' guard_none (Y0.assign rfl) rfl ?_
        refine WL.nil ?_
        refine WE.then ?_
        refine WC.ret ?_
        refine WE.inBlockRet ?_
        refine WE.thenRet ?_
        refine WE.thenRet ?_
        refine WE.inBlockRet ?_
        refine WE.thenRet ?_
        refine WE.ret1 rfl rfl ?_
        exact congrArg Value.bool (decide_eq_false (fun h => by have := h ⟨x, hn⟩; omega)).symm
      · skip
        refine WL.y0' guard_none (Y0.pickF rfl rfl) rfl ?_
        refine WL.nil ?_
        refine WE.then ?_
        refine WC.condF rfl ?_
        refine WC.skip ?_
        refine WE.inBlock ?_
        refine WE.then ?_
        refine WC.region ?_
        first | refine WL.y0' guard_none (Y0.addI rfl rfl (by omega)) rfl ?_ | refine WL.y0' guard_none (Y0.add rfl rfl) rfl ?_
        refine WL.y0' guard_none (Y0.move rfl) rfl ?_
        refine WL.nil ?_
        refine WE.backH (x + 1) ?_ ?_ ?_ ?_
        · exact ⟨by omega, all_step hall hn (by omega)⟩
        · exact Fr.sub_cons rfl (Fr.sub_cons rfl (Fr.sub_cons rfl (Fr.sub_nil _)))
        · exact St.conseqL (Lo.sub_cons (rfl) (Lo.sub_nil _))
        · omega
  · skip
    refine WL.nil ?_
    refine WE.then ?_
    refine WC.seq ?_
    refine WC.condF rfl ?_
    refine WC.exit ?_
    refine WE.thenExit ?_
    refine WE.thenExit ?_
    refine WE.exitHere ?_
    refine WE.then ?_
    refine WC.seq ?_
    refine WC.region ?_
    refine WL.y0' guard_none (Y0.assign rfl) rfl ?_
    refine WL.nil ?_
    refine WE.then ?_
    refine WC.ret ?_
    refine WE.ret1 rfl rfl ?_
    exact congrArg Value.bool (decide_eq_true (fun i => hall i (by omega))).symm

theorem rValid (a : M) : Ctr Try.prog 31 #[.agg (vecA a)] (fun G => True) (fun G r => r = .bool (decide (Ok a))) := by
  refine Ctr.enter (args := [_]) (N := 18) Try.func31 rfl rfl rfl (fun w0 G0 hL0 hpre => ?_)
  refine WC.seq ?_
  refine WC.region ?_
  refine WL.box 1 guard_none rfl rfl (fun b1 => ?_)
  refine WL.y0' guard_none (Y0.assign rfl) rfl ?_
  refine WL.nil ?_
  refine WE.then ?_
  refine WC.seq ?_
  refine WC.seq ?_
  refine WC.region ?_
  refine WL.y0' guard_none (Y0.assign rfl) rfl ?_
  refine WL.nil ?_
  refine WE.then ?_
  refine WC.block ?_
  refine WC.loopH (fun (x : Nat) => [(1, .pointer (some ⟨b1, 0, none⟩)), (3, .int .i64 (x : Int))]) (fun (x : Nat) => x ≤ 8 ∧ ∀ i : Fin 8, i.val < x → (0 ≤ a i ∧ a i ≤ 65535)) (fun (x : Nat) => St w0 G0 G0 [(1, b1, .cells (vecA a) 27 (0, 0))]) (fun (x : Nat) => 8 - x) 0 ?_ ?_ ?_ ?_
  · exact Fr.sub_cons rfl (Fr.sub_cons rfl (Fr.sub_nil _))
  · exact ⟨by omega, fun i h => by omega⟩
  · exact St.conseqL (Lo.sub_cons (rfl) (Lo.sub_nil _))
  rintro x hx
  obtain ⟨hk, hall⟩ := hx
  refine WC.seq ?_
  refine WC.seq ?_
  refine WC.region ?_
  refine WL.y0' guard_none (Y0.move rfl) rfl ?_
  refine WL.caseY0 guard_none (Y0.lss rfl rfl) rfl (fun h5 => ?_) (fun h5 => ?_)
  · skip
    have hn : x < 8 := by omega
    refine WL.nil ?_
    refine WE.then ?_
    refine WC.condT rfl ?_
    refine WC.skip ?_
    refine WE.then ?_
    refine WC.seq ?_
    refine WC.block ?_
    refine WC.seq ?_
    refine WC.region ?_
    refine WL.y0' guard_none (Y0.move rfl) rfl ?_
    first | refine WL.y0' guard_none (Y0.idxArr1 Try.underlying27 sz3 rfl rfl (by omega)) rfl ?_ | refine WL.y0' guard_none (Y0.idxArr Try.underlying27 sz3 rfl rfl (by omega)) rfl ?_
    refine WL.y0' guard_none (Y0.loadL 1 sc3 rfl rfl (vecA_get _ hn)) rfl ?_
    refine WL.caseY0 guard_none (Y0.lss rfl rfl) rfl (fun h11 => ?_) (fun h11 => ?_)
    · skip
      refine WL.y0' guard_none (Y0.move rfl) rfl ?_
      refine WL.skip (guard_noF rfl rfl) rfl ?_
      refine WL.skip (guard_noF rfl rfl) rfl ?_
      refine WL.skip (guard_noF rfl rfl) rfl ?_
      refine WL.skip (guard_noF rfl rfl) rfl ?_
      refine WL.y0' guard_none (Y0.pickT rfl rfl) rfl ?_
      refine WL.nil ?_
      refine WE.then ?_
      refine WC.condT rfl ?_
      refine WC.seq ?_
      refine WC.region ?_
      refine WL.y0' guard_none (Y0.assign rfl) rfl ?_
      refine WL.nil ?_
      refine WE.then ?_
      refine WC.ret ?_
      refine WE.inBlockRet ?_
      refine WE.thenRet ?_
      refine WE.thenRet ?_
      refine WE.inBlockRet ?_
      refine WE.thenRet ?_
      refine WE.ret1 rfl rfl ?_
      exact congrArg Value.bool (decide_eq_false (fun h => by have := h ⟨x, hn⟩; omega)).symm
    · skip
      refine WL.y0' guard_none (Y0.move rfl) rfl ?_
      refine WL.y0' (guard_yes rfl rfl) (Y0.move rfl) rfl ?_
      first | refine WL.y0' (guard_yes rfl rfl) (Y0.idxArr1 Try.underlying27 sz3 rfl rfl (by omega)) rfl ?_ | refine WL.y0' (guard_yes rfl rfl) (Y0.idxArr Try.underlying27 sz3 rfl rfl (by omega)) rfl ?_
      refine WL.y0' (guard_yes rfl rfl) (Y0.loadL 1 sc3 rfl rfl (vecA_get _ hn)) rfl ?_
      refine WL.caseY0 (guard_yes rfl rfl) (Y0.gtr rfl rfl) rfl (fun h16 => ?_) (fun h16 => ?_)
      · skip
        refine WL.y0' guard_none (Y0.pickF rfl rfl) rfl ?_
        refine WL.nil ?_
        refine WE.then ?_
        refine WC.condT rfl ?_
        refine WC.seq ?_
        refine WC.region ?_
        refine WL.y0' guard_none (Y0.assign rfl) rfl ?_
        refine WL.nil ?_
        refine WE.then ?_
        refine WC.ret ?_
        refine WE.inBlockRet ?_
        refine WE.thenRet ?_
        refine WE.thenRet ?_
        refine WE.inBlockRet ?_
        refine WE.thenRet ?_
        refine WE.ret1 rfl rfl ?_
        exact congrArg Value.bool (decide_eq_false (fun h => by have := h ⟨x, hn⟩; omega)).symm
      · skip
        refine WL.y0' guard_none (Y0.pickF rfl rfl) rfl ?_
        refine WL.nil ?_
        refine WE.then ?_
        refine WC.condF rfl ?_
        refine WC.skip ?_
        refine WE.inBlock ?_
        refine WE.then ?_
        refine WC.region ?_
        refine WL.y0' guard_none (Y0.move rfl) rfl ?_
        first | refine WL.y0' guard_none (Y0.addI rfl rfl (by omega)) rfl ?_ | refine WL.y0' guard_none (Y0.add rfl rfl) rfl ?_
        refine WL.y0' guard_none (Y0.assign rfl) rfl ?_
        refine WL.nil ?_
        refine WE.backH (x + 1) ?_ ?_ ?_ ?_
        · exact ⟨by omega, all_step hall hn (by omega)⟩
        · exact Fr.sub_cons rfl (Fr.sub_cons rfl (Fr.sub_nil _))
        · exact St.conseqL (Lo.sub_cons (rfl) (Lo.sub_nil _))
        · omega
  · skip
    refine WL.nil ?_
    refine WE.then ?_
    refine WC.condF rfl ?_
    refine WC.exit ?_
    refine WE.thenExit ?_
    refine WE.thenExit ?_
    refine WE.exitHere ?_
    refine WE.then ?_
    refine WC.seq ?_
    refine WC.region ?_
    refine WL.y0' guard_none (Y0.assign rfl) rfl ?_
    refine WL.nil ?_
    refine WE.then ?_
    refine WC.ret ?_
    refine WE.ret1 rfl rfl ?_
    exact congrArg Value.bool (decide_eq_true (fun i => hall i (by omega))).symm

theorem rMade (a : M) (ha : Ok a) : Ctr Try.prog 12 #[.agg (vecU a)] (fun G => True) (fun G r => r = .agg (vecA a)) := by
  refine Ctr.enter (args := [_]) (N := 17) Try.func12 rfl rfl rfl (fun w0 G0 hL0 hpre => ?_)
  refine WC.seq ?_
  refine WC.region ?_
  refine WL.box 1 guard_none rfl rfl (fun b1 => ?_)
  refine WL.alloc 2 guard_none z27 rfl (fun b2 => ?_)
  refine WL.nil ?_
  refine WE.then ?_
  refine WC.seq ?_
  refine WC.region ?_
  refine WL.y0' guard_none (Y0.buildM0 bz27) rfl ?_
  refine WL.alloc 3 guard_none z27 rfl (fun b3 => ?_)
  refine WL.storeLA 3 guard_none sz27 rfl rfl rfl rfl rfl rfl ?_
  refine WL.nil ?_
  refine WE.then ?_
  refine WC.seq ?_
  refine WC.seq ?_
  refine WC.region ?_
  refine WL.y0' guard_none (Y0.assign rfl) rfl ?_
  refine WL.nil ?_
  refine WE.then ?_
  refine WC.block ?_
  refine WC.loopH (fun (x : Nat) => [(1, .pointer (some ⟨b1, 0, none⟩)), (2, .pointer (some ⟨b2, 0, none⟩)), (3, .pointer (some ⟨b3, 0, none⟩)), (4, .int .i64 (x : Int))]) (fun (x : Nat) => x ≤ 8) (fun (x : Nat) => St w0 G0 G0 [(1, b1, .cells (vecU a) 24 (0, 0)), (2, b2, .cells (vecA zeroM) 27 (0, 0)), (3, b3, .cells (vecA (mixM x a zeroM)) 27 (0, 0))]) (fun (x : Nat) => 8 - x) 0 ?_ ?_ ?_ ?_
  · exact Fr.sub_cons rfl (Fr.sub_cons rfl (Fr.sub_cons rfl (Fr.sub_cons rfl (Fr.sub_nil _))))
  · omega
  · rw [mix_zero]; exact St.conseqL (Lo.sub_cons (rfl) (Lo.sub_cons (rfl) (Lo.sub_cons (rfl) (Lo.sub_nil _))))
  rintro x hx
  have hk := hx
  refine WC.seq ?_
  refine WC.seq ?_
  refine WC.region ?_
  refine WL.y0' guard_none (Y0.move rfl) rfl ?_
  refine WL.caseY0 guard_none (Y0.lss rfl rfl) rfl (fun h7 => ?_) (fun h7 => ?_)
  · skip
    have hn : x < 8 := by omega
    have hax := ha ⟨x, hn⟩
    refine WL.nil ?_
    refine WE.then ?_
    refine WC.condT rfl ?_
    refine WC.skip ?_
    refine WE.then ?_
    refine WC.seq ?_
    refine WC.block ?_
    refine WC.region ?_
    refine WL.y0' guard_none (Y0.move rfl) rfl ?_
    refine WL.y0' guard_none (Y0.move rfl) rfl ?_
    first | refine WL.y0' guard_none (Y0.idxArr1 Try.underlying24 sz22 rfl rfl (by omega)) rfl ?_ | refine WL.y0' guard_none (Y0.idxArr Try.underlying24 sz22 rfl rfl (by omega)) rfl ?_
    refine WL.y0' guard_none (Y0.loadL 1 sc22 rfl rfl (vecU_get _ hn)) rfl ?_
    first | refine WL.y0' guard_none (Y0.convI Try.underlying22 Try.underlying3 rfl (by omega)) rfl ?_ | refine WL.y0' guard_none (Y0.conv Try.underlying22 Try.underlying3 rfl) rfl ?_
    first | refine WL.y0' guard_none (Y0.idxArr1 Try.underlying27 sz3 rfl rfl (by omega)) rfl ?_ | refine WL.y0' guard_none (Y0.idxArr Try.underlying27 sz3 rfl rfl (by omega)) rfl ?_
    refine WL.storeL 3 guard_none sz3 rfl rfl rfl (by first | decide | exact hn | (simp; omega)) rfl ?_
    refine WL.nil ?_
    refine WE.inBlock ?_
    refine WE.then ?_
    refine WC.region ?_
    refine WL.y0' guard_none (Y0.move rfl) rfl ?_
    first | refine WL.y0' guard_none (Y0.addI rfl rfl (by omega)) rfl ?_ | refine WL.y0' guard_none (Y0.add rfl rfl) rfl ?_
    refine WL.y0' guard_none (Y0.assign rfl) rfl ?_
    refine WL.nil ?_
    refine WE.backH (x + 1) ?_ ?_ ?_ ?_
    · omega
    · exact Fr.sub_cons rfl (Fr.sub_cons rfl (Fr.sub_cons rfl (Fr.sub_cons rfl (Fr.sub_nil _))))
    · exact St.conseqL (Lo.sub_cons (rfl) (Lo.sub_cons (rfl) (Lo.sub_cons (congrArg (fun c => some (b3, Obj.cells c 27 (0, 0))) (vec_step a zeroM hn)) (Lo.sub_nil _))))
    · omega
  · skip
    refine WL.nil ?_
    refine WE.then ?_
    refine WC.condF rfl ?_
    refine WC.exit ?_
    refine WE.thenExit ?_
    refine WE.thenExit ?_
    refine WE.exitHere ?_
    refine WE.then ?_
    refine WC.seq ?_
    refine WC.region ?_
    refine WL.y0' guard_none (Y0.loadLA 3 ag27 rfl rfl rfl) rfl ?_
    refine WL.storeLA 2 guard_none sz27 rfl rfl rfl rfl rfl rfl ?_
    refine WL.nil ?_
    refine WE.then ?_
    refine WC.ret ?_
    refine WE.ret1 rfl (RV.cellA (i := 2) ag27 rfl rfl rfl) ?_
    rw [mix_all _ _ (by omega)]

theorem mLcm (a b : M) : Ctr Try.prog 21 #[.agg (vecA a), .agg (vecA b)] (fun G => True) (fun G r => r = .agg (vecA (maxM a b))) := by
  refine Ctr.enter (args := [_, _]) (N := 20) Try.func21 rfl rfl rfl (fun w0 G0 hL0 hpre => ?_)
  refine WC.seq ?_
  refine WC.region ?_
  refine WL.box 2 guard_none rfl rfl (fun b2 => ?_)
  refine WL.box 3 guard_none rfl rfl (fun b3 => ?_)
  refine WL.alloc 4 guard_none z27 rfl (fun b4 => ?_)
  refine WL.nil ?_
  refine WE.then ?_
  refine WC.seq ?_
  refine WC.seq ?_
  refine WC.region ?_
  refine WL.y0' guard_none (Y0.move rfl) rfl ?_
  refine WL.nil ?_
  refine WE.then ?_
  refine WC.block ?_
  refine WC.loopH (fun (x : Nat) => [(2, .pointer (some ⟨b2, 0, none⟩)), (3, .pointer (some ⟨b3, 0, none⟩)), (4, .pointer (some ⟨b4, 0, none⟩)), (6, .int .i64 (x : Int))]) (fun (x : Nat) => x ≤ 8) (fun (x : Nat) => St w0 G0 G0 [(2, b2, .cells (vecA (mixM x (maxM a b) a)) 27 (0, 0)), (3, b3, .cells (vecA b) 27 (0, 0)), (4, b4, .cells (vecA zeroM) 27 (0, 0))]) (fun (x : Nat) => 8 - x) 0 ?_ ?_ ?_ ?_
  · exact Fr.sub_cons rfl (Fr.sub_cons rfl (Fr.sub_cons rfl (Fr.sub_cons rfl (Fr.sub_nil _))))
  · omega
  · rw [mix_zero]; exact St.conseqL (Lo.sub_cons (rfl) (Lo.sub_cons (rfl) (Lo.sub_cons (rfl) (Lo.sub_nil _))))
  rintro x hx
  have hk := hx
  refine WC.seq ?_
  refine WC.region ?_
  refine WL.caseY0 guard_none (Y0.lss rfl rfl) rfl (fun h7 => ?_) (fun h7 => ?_)
  · skip
    have hn : x < 8 := by omega
    refine WL.nil ?_
    refine WE.then ?_
    refine WC.seq ?_
    refine WC.condT rfl ?_
    refine WC.skip ?_
    refine WE.then ?_
    refine WC.seq ?_
    refine WC.block ?_
    refine WC.seq ?_
    refine WC.region ?_
    refine WL.y0' guard_none (Y0.move rfl) rfl ?_
    refine WL.y0' guard_none (Y0.assign rfl) rfl ?_
    refine WL.nil ?_
    refine WE.then ?_
    refine WC.drawn [false, false, false, false, false, false, false, false, false] mix (by kernel_rfl) (fun hb => ?_)
    refine Chain.y0 guard_none (fun _ hle => Y0.move rfl) ?_
    refine Chain.y0 guard_none (fun _ hle => Y0.move rfl) ?_
    first | refine Chain.y0 guard_none (fun _ hle => Y0.idxArr1 Try.underlying27 sz3 rfl rfl (by omega)) ?_ | refine Chain.y0 guard_none (fun _ hle => Y0.idxArr Try.underlying27 sz3 rfl rfl (by omega)) ?_
    refine Chain.y0 guard_none (fun _ hle => Y0.loadL 2 sc3 rfl rfl (mix_get _ _ hn)) ?_
    refine Chain.y0 guard_none (fun _ hle => Y0.move rfl) ?_
    first | refine Chain.y0 guard_none (fun _ hle => Y0.idxArr1 Try.underlying27 sz3 rfl rfl (by omega)) ?_ | refine Chain.y0 guard_none (fun _ hle => Y0.idxArr Try.underlying27 sz3 rfl rfl (by omega)) ?_
    refine Chain.y0 guard_none (fun _ hle => Y0.loadL 3 sc3 rfl rfl (vecA_get _ hn)) ?_
    refine Chain.y0 guard_none (fun _ hle => Y0.max2 rfl rfl) ?_
    first | refine Chain.y0 guard_none (fun _ hle => Y0.idxArr1 Try.underlying27 sz3 rfl rfl (by omega)) ?_ | refine Chain.y0 guard_none (fun _ hle => Y0.idxArr Try.underlying27 sz3 rfl rfl (by omega)) ?_
    refine Chain.tail0 hb ?_
    refine WL.storeL 2 guard_none sz3 rfl rfl rfl (by first | decide | exact hn | (simp; omega)) rfl ?_
    refine WL.nil ?_
    refine WE.nx ?_
    refine WE.inBlock ?_
    refine WE.then ?_
    refine WC.region ?_
    first | refine WL.y0' guard_none (Y0.addI rfl rfl (by omega)) rfl ?_ | refine WL.y0' guard_none (Y0.add rfl rfl) rfl ?_
    refine WL.y0' guard_none (Y0.move rfl) rfl ?_
    refine WL.nil ?_
    refine WE.backH (x + 1) ?_ ?_ ?_ ?_
    · omega
    · exact Fr.sub_cons rfl (Fr.sub_cons rfl (Fr.sub_cons rfl (Fr.sub_cons rfl (Fr.sub_nil _))))
    · exact St.conseqL (Lo.sub_cons (congrArg (fun c => some (b2, Obj.cells c 27 (0, 0))) (vec_step (maxM a b) a hn)) (Lo.sub_cons (rfl) (Lo.sub_cons (rfl) (Lo.sub_nil _))))
    · omega
  · skip
    have hend : ¬ x < 8 := by omega
    rw [mix_all _ _ hend]
    refine WL.nil ?_
    refine WE.then ?_
    refine WC.seq ?_
    refine WC.condF rfl ?_
    refine WC.exit ?_
    refine WE.thenExit ?_
    refine WE.thenExit ?_
    refine WE.exitHere ?_
    refine WE.then ?_
    refine WC.seq ?_
    refine WC.region ?_
    refine WL.y0' guard_none (Y0.loadLA 2 ag27 rfl rfl rfl) rfl ?_
    refine WL.storeLA 4 guard_none sz27 rfl rfl rfl rfl rfl rfl ?_
    refine WL.nil ?_
    refine WE.then ?_
    refine WC.ret ?_
    refine WE.ret1 rfl (RV.cellA (i := 4) ag27 rfl rfl rfl) ?_
    rfl

theorem rLcm (a b : M) : Ctr Try.prog 22 #[.agg (vecA a), .agg (vecA b)] (fun G => True) (fun G r => r = .agg (vecA (maxM a b))) := by
  refine Ctr.enter (args := [_, _]) (N := 20) Try.func22 rfl rfl rfl (fun w0 G0 hL0 hpre => ?_)
  refine WC.seq ?_
  refine WC.region ?_
  refine WL.box 2 guard_none rfl rfl (fun b2 => ?_)
  refine WL.box 3 guard_none rfl rfl (fun b3 => ?_)
  refine WL.alloc 4 guard_none z27 rfl (fun b4 => ?_)
  refine WL.nil ?_
  refine WE.then ?_
  refine WC.seq ?_
  refine WC.seq ?_
  refine WC.region ?_
  refine WL.y0' guard_none (Y0.assign rfl) rfl ?_
  refine WL.nil ?_
  refine WE.then ?_
  refine WC.block ?_
  refine WC.loopH (fun (x : Nat) => [(2, .pointer (some ⟨b2, 0, none⟩)), (3, .pointer (some ⟨b3, 0, none⟩)), (4, .pointer (some ⟨b4, 0, none⟩)), (5, .int .i64 (x : Int))]) (fun (x : Nat) => x ≤ 8) (fun (x : Nat) => St w0 G0 G0 [(2, b2, .cells (vecA (mixM x (maxM a b) a)) 27 (0, 0)), (3, b3, .cells (vecA b) 27 (0, 0)), (4, b4, .cells (vecA zeroM) 27 (0, 0))]) (fun (x : Nat) => 8 - x) 0 ?_ ?_ ?_ ?_
  · exact Fr.sub_cons rfl (Fr.sub_cons rfl (Fr.sub_cons rfl (Fr.sub_cons rfl (Fr.sub_nil _))))
  · omega
  · rw [mix_zero]; exact St.conseqL (Lo.sub_cons (rfl) (Lo.sub_cons (rfl) (Lo.sub_cons (rfl) (Lo.sub_nil _))))
  rintro x hx
  have hk := hx
  refine WC.seq ?_
  refine WC.seq ?_
  refine WC.region ?_
  refine WL.y0' guard_none (Y0.move rfl) rfl ?_
  refine WL.caseY0 guard_none (Y0.lss rfl rfl) rfl (fun h7 => ?_) (fun h7 => ?_)
  · skip
    have hn : x < 8 := by omega
    refine WL.nil ?_
    refine WE.then ?_
    refine WC.condT rfl ?_
    refine WC.skip ?_
    refine WE.then ?_
    refine WC.seq ?_
    refine WC.block ?_
    refine WC.drawn [false, false, false, false, false, false, false, false, false] mix (by kernel_rfl) (fun hb => ?_)
    refine Chain.y0 guard_none (fun _ hle => Y0.move rfl) ?_
    refine Chain.y0 guard_none (fun _ hle => Y0.move rfl) ?_
    first | refine Chain.y0 guard_none (fun _ hle => Y0.idxArr1 Try.underlying27 sz3 rfl rfl (by omega)) ?_ | refine Chain.y0 guard_none (fun _ hle => Y0.idxArr Try.underlying27 sz3 rfl rfl (by omega)) ?_
    refine Chain.y0 guard_none (fun _ hle => Y0.loadL 2 sc3 rfl rfl (mix_get _ _ hn)) ?_
    refine Chain.y0 guard_none (fun _ hle => Y0.move rfl) ?_
    first | refine Chain.y0 guard_none (fun _ hle => Y0.idxArr1 Try.underlying27 sz3 rfl rfl (by omega)) ?_ | refine Chain.y0 guard_none (fun _ hle => Y0.idxArr Try.underlying27 sz3 rfl rfl (by omega)) ?_
    refine Chain.y0 guard_none (fun _ hle => Y0.loadL 3 sc3 rfl rfl (vecA_get _ hn)) ?_
    refine Chain.y0 guard_none (fun _ hle => Y0.max2 rfl rfl) ?_
    first | refine Chain.y0 guard_none (fun _ hle => Y0.idxArr1 Try.underlying27 sz3 rfl rfl (by omega)) ?_ | refine Chain.y0 guard_none (fun _ hle => Y0.idxArr Try.underlying27 sz3 rfl rfl (by omega)) ?_
    refine Chain.tail0 hb ?_
    refine WL.storeL 2 guard_none sz3 rfl rfl rfl (by first | decide | exact hn | (simp; omega)) rfl ?_
    refine WL.nil ?_
    refine WE.nx ?_
    refine WE.inBlock ?_
    refine WE.then ?_
    refine WC.region ?_
    refine WL.y0' guard_none (Y0.move rfl) rfl ?_
    first | refine WL.y0' guard_none (Y0.addI rfl rfl (by omega)) rfl ?_ | refine WL.y0' guard_none (Y0.add rfl rfl) rfl ?_
    refine WL.y0' guard_none (Y0.assign rfl) rfl ?_
    refine WL.nil ?_
    refine WE.backH (x + 1) ?_ ?_ ?_ ?_
    · omega
    · exact Fr.sub_cons rfl (Fr.sub_cons rfl (Fr.sub_cons rfl (Fr.sub_cons rfl (Fr.sub_nil _))))
    · exact St.conseqL (Lo.sub_cons (congrArg (fun c => some (b2, Obj.cells c 27 (0, 0))) (vec_step (maxM a b) a hn)) (Lo.sub_cons (rfl) (Lo.sub_cons (rfl) (Lo.sub_nil _))))
    · omega
  · skip
    have hend : ¬ x < 8 := by omega
    rw [mix_all _ _ hend]
    refine WL.nil ?_
    refine WE.then ?_
    refine WC.condF rfl ?_
    refine WC.exit ?_
    refine WE.thenExit ?_
    refine WE.thenExit ?_
    refine WE.exitHere ?_
    refine WE.then ?_
    refine WC.seq ?_
    refine WC.region ?_
    refine WL.y0' guard_none (Y0.loadLA 2 ag27 rfl rfl rfl) rfl ?_
    refine WL.storeLA 4 guard_none sz27 rfl rfl rfl rfl rfl rfl ?_
    refine WL.nil ?_
    refine WE.then ?_
    refine WC.ret ?_
    refine WE.ret1 rfl (RV.cellA (i := 4) ag27 rfl rfl rfl) ?_
    rfl

theorem mGcd (a b : M) : Ctr Try.prog 23 #[.agg (vecA a), .agg (vecA b)] (fun G => True) (fun G r => r = .agg (vecA (minM a b))) := by
  refine Ctr.enter (args := [_, _]) (N := 20) Try.func23 rfl rfl rfl (fun w0 G0 hL0 hpre => ?_)
  refine WC.seq ?_
  refine WC.region ?_
  refine WL.box 2 guard_none rfl rfl (fun b2 => ?_)
  refine WL.box 3 guard_none rfl rfl (fun b3 => ?_)
  refine WL.alloc 4 guard_none z27 rfl (fun b4 => ?_)
  refine WL.nil ?_
  refine WE.then ?_
  refine WC.seq ?_
  refine WC.seq ?_
  refine WC.region ?_
  refine WL.y0' guard_none (Y0.move rfl) rfl ?_
  refine WL.nil ?_
  refine WE.then ?_
  refine WC.block ?_
  refine WC.loopH (fun (x : Nat) => [(2, .pointer (some ⟨b2, 0, none⟩)), (3, .pointer (some ⟨b3, 0, none⟩)), (4, .pointer (some ⟨b4, 0, none⟩)), (6, .int .i64 (x : Int))]) (fun (x : Nat) => x ≤ 8) (fun (x : Nat) => St w0 G0 G0 [(2, b2, .cells (vecA (mixM x (minM a b) a)) 27 (0, 0)), (3, b3, .cells (vecA b) 27 (0, 0)), (4, b4, .cells (vecA zeroM) 27 (0, 0))]) (fun (x : Nat) => 8 - x) 0 ?_ ?_ ?_ ?_
  · exact Fr.sub_cons rfl (Fr.sub_cons rfl (Fr.sub_cons rfl (Fr.sub_cons rfl (Fr.sub_nil _))))
  · omega
  · rw [mix_zero]; exact St.conseqL (Lo.sub_cons (rfl) (Lo.sub_cons (rfl) (Lo.sub_cons (rfl) (Lo.sub_nil _))))
  rintro x hx
  have hk := hx
  refine WC.seq ?_
  refine WC.region ?_
  refine WL.caseY0 guard_none (Y0.lss rfl rfl) rfl (fun h7 => ?_) (fun h7 => ?_)
  · skip
    have hn : x < 8 := by omega
    refine WL.nil ?_
    refine WE.then ?_
    refine WC.seq ?_
    refine WC.condT rfl ?_
    refine WC.skip ?_
    refine WE.then ?_
    refine WC.seq ?_
    refine WC.block ?_
    refine WC.seq ?_
    refine WC.region ?_
    refine WL.y0' guard_none (Y0.move rfl) rfl ?_
    refine WL.y0' guard_none (Y0.assign rfl) rfl ?_
    refine WL.nil ?_
    refine WE.then ?_
    refine WC.drawn [false, false, false, false, false, false, false, false, false] mix (by kernel_rfl) (fun hb => ?_)
    refine Chain.y0 guard_none (fun _ hle => Y0.move rfl) ?_
    refine Chain.y0 guard_none (fun _ hle => Y0.move rfl) ?_
    first | refine Chain.y0 guard_none (fun _ hle => Y0.idxArr1 Try.underlying27 sz3 rfl rfl (by omega)) ?_ | refine Chain.y0 guard_none (fun _ hle => Y0.idxArr Try.underlying27 sz3 rfl rfl (by omega)) ?_
    refine Chain.y0 guard_none (fun _ hle => Y0.loadL 2 sc3 rfl rfl (mix_get _ _ hn)) ?_
    refine Chain.y0 guard_none (fun _ hle => Y0.move rfl) ?_
    first | refine Chain.y0 guard_none (fun _ hle => Y0.idxArr1 Try.underlying27 sz3 rfl rfl (by omega)) ?_ | refine Chain.y0 guard_none (fun _ hle => Y0.idxArr Try.underlying27 sz3 rfl rfl (by omega)) ?_
    refine Chain.y0 guard_none (fun _ hle => Y0.loadL 3 sc3 rfl rfl (vecA_get _ hn)) ?_
    refine Chain.y0 guard_none (fun _ hle => Y0.min2 rfl rfl) ?_
    first | refine Chain.y0 guard_none (fun _ hle => Y0.idxArr1 Try.underlying27 sz3 rfl rfl (by omega)) ?_ | refine Chain.y0 guard_none (fun _ hle => Y0.idxArr Try.underlying27 sz3 rfl rfl (by omega)) ?_
    refine Chain.tail0 hb ?_
    refine WL.storeL 2 guard_none sz3 rfl rfl rfl (by first | decide | exact hn | (simp; omega)) rfl ?_
    refine WL.nil ?_
    refine WE.nx ?_
    refine WE.inBlock ?_
    refine WE.then ?_
    refine WC.region ?_
    first | refine WL.y0' guard_none (Y0.addI rfl rfl (by omega)) rfl ?_ | refine WL.y0' guard_none (Y0.add rfl rfl) rfl ?_
    refine WL.y0' guard_none (Y0.move rfl) rfl ?_
    refine WL.nil ?_
    refine WE.backH (x + 1) ?_ ?_ ?_ ?_
    · omega
    · exact Fr.sub_cons rfl (Fr.sub_cons rfl (Fr.sub_cons rfl (Fr.sub_cons rfl (Fr.sub_nil _))))
    · exact St.conseqL (Lo.sub_cons (congrArg (fun c => some (b2, Obj.cells c 27 (0, 0))) (vec_step (minM a b) a hn)) (Lo.sub_cons (rfl) (Lo.sub_cons (rfl) (Lo.sub_nil _))))
    · omega
  · skip
    have hend : ¬ x < 8 := by omega
    rw [mix_all _ _ hend]
    refine WL.nil ?_
    refine WE.then ?_
    refine WC.seq ?_
    refine WC.condF rfl ?_
    refine WC.exit ?_
    refine WE.thenExit ?_
    refine WE.thenExit ?_
    refine WE.exitHere ?_
    refine WE.then ?_
    refine WC.seq ?_
    refine WC.region ?_
    refine WL.y0' guard_none (Y0.loadLA 2 ag27 rfl rfl rfl) rfl ?_
    refine WL.storeLA 4 guard_none sz27 rfl rfl rfl rfl rfl rfl ?_
    refine WL.nil ?_
    refine WE.then ?_
    refine WC.ret ?_
    refine WE.ret1 rfl (RV.cellA (i := 4) ag27 rfl rfl rfl) ?_
    rfl

theorem rGcd (a b : M) : Ctr Try.prog 24 #[.agg (vecA a), .agg (vecA b)] (fun G => True) (fun G r => r = .agg (vecA (minM a b))) := by
  refine Ctr.enter (args := [_, _]) (N := 20) Try.func24 rfl rfl rfl (fun w0 G0 hL0 hpre => ?_)
  refine WC.seq ?_
  refine WC.region ?_
  refine WL.box 2 guard_none rfl rfl (fun b2 => ?_)
  refine WL.box 3 guard_none rfl rfl (fun b3 => ?_)
  refine WL.alloc 4 guard_none z27 rfl (fun b4 => ?_)
  refine WL.nil ?_
  refine WE.then ?_
  refine WC.seq ?_
  refine WC.seq ?_
  refine WC.region ?_
  refine WL.y0' guard_none (Y0.assign rfl) rfl ?_
  refine WL.nil ?_
  refine WE.then ?_
  refine WC.block ?_
  refine WC.loopH (fun (x : Nat) => [(2, .pointer (some ⟨b2, 0, none⟩)), (3, .pointer (some ⟨b3, 0, none⟩)), (4, .pointer (some ⟨b4, 0, none⟩)), (5, .int .i64 (x : Int))]) (fun (x : Nat) => x ≤ 8) (fun (x : Nat) => St w0 G0 G0 [(2, b2, .cells (vecA (mixM x (minM a b) a)) 27 (0, 0)), (3, b3, .cells (vecA b) 27 (0, 0)), (4, b4, .cells (vecA zeroM) 27 (0, 0))]) (fun (x : Nat) => 8 - x) 0 ?_ ?_ ?_ ?_
  · exact Fr.sub_cons rfl (Fr.sub_cons rfl (Fr.sub_cons rfl (Fr.sub_cons rfl (Fr.sub_nil _))))
  · omega
  · rw [mix_zero]; exact St.conseqL (Lo.sub_cons (rfl) (Lo.sub_cons (rfl) (Lo.sub_cons (rfl) (Lo.sub_nil _))))
  rintro x hx
  have hk := hx
  refine WC.seq ?_
  refine WC.seq ?_
  refine WC.region ?_
  refine WL.y0' guard_none (Y0.move rfl) rfl ?_
  refine WL.caseY0 guard_none (Y0.lss rfl rfl) rfl (fun h7 => ?_) (fun h7 => ?_)
  · skip
    have hn : x < 8 := by omega
    refine WL.nil ?_
    refine WE.then ?_
    refine WC.condT rfl ?_
    refine WC.skip ?_
    refine WE.then ?_
    refine WC.seq ?_
    refine WC.block ?_
    refine WC.drawn [false, false, false, false, false, false, false, false, false] mix (by kernel_rfl) (fun hb => ?_)
    refine Chain.y0 guard_none (fun _ hle => Y0.move rfl) ?_
    refine Chain.y0 guard_none (fun _ hle => Y0.move rfl) ?_
    first | refine Chain.y0 guard_none (fun _ hle => Y0.idxArr1 Try.underlying27 sz3 rfl rfl (by omega)) ?_ | refine Chain.y0 guard_none (fun _ hle => Y0.idxArr Try.underlying27 sz3 rfl rfl (by omega)) ?_
    refine Chain.y0 guard_none (fun _ hle => Y0.loadL 2 sc3 rfl rfl (mix_get _ _ hn)) ?_
    refine Chain.y0 guard_none (fun _ hle => Y0.move rfl) ?_
    first | refine Chain.y0 guard_none (fun _ hle => Y0.idxArr1 Try.underlying27 sz3 rfl rfl (by omega)) ?_ | refine Chain.y0 guard_none (fun _ hle => Y0.idxArr Try.underlying27 sz3 rfl rfl (by omega)) ?_
    refine Chain.y0 guard_none (fun _ hle => Y0.loadL 3 sc3 rfl rfl (vecA_get _ hn)) ?_
    refine Chain.y0 guard_none (fun _ hle => Y0.min2 rfl rfl) ?_
    first | refine Chain.y0 guard_none (fun _ hle => Y0.idxArr1 Try.underlying27 sz3 rfl rfl (by omega)) ?_ | refine Chain.y0 guard_none (fun _ hle => Y0.idxArr Try.underlying27 sz3 rfl rfl (by omega)) ?_
    refine Chain.tail0 hb ?_
    refine WL.storeL 2 guard_none sz3 rfl rfl rfl (by first | decide | exact hn | (simp; omega)) rfl ?_
    refine WL.nil ?_
    refine WE.nx ?_
    refine WE.inBlock ?_
    refine WE.then ?_
    refine WC.region ?_
    refine WL.y0' guard_none (Y0.move rfl) rfl ?_
    first | refine WL.y0' guard_none (Y0.addI rfl rfl (by omega)) rfl ?_ | refine WL.y0' guard_none (Y0.add rfl rfl) rfl ?_
    refine WL.y0' guard_none (Y0.assign rfl) rfl ?_
    refine WL.nil ?_
    refine WE.backH (x + 1) ?_ ?_ ?_ ?_
    · omega
    · exact Fr.sub_cons rfl (Fr.sub_cons rfl (Fr.sub_cons rfl (Fr.sub_cons rfl (Fr.sub_nil _))))
    · exact St.conseqL (Lo.sub_cons (congrArg (fun c => some (b2, Obj.cells c 27 (0, 0))) (vec_step (minM a b) a hn)) (Lo.sub_cons (rfl) (Lo.sub_cons (rfl) (Lo.sub_nil _))))
    · omega
  · skip
    have hend : ¬ x < 8 := by omega
    rw [mix_all _ _ hend]
    refine WL.nil ?_
    refine WE.then ?_
    refine WC.condF rfl ?_
    refine WC.exit ?_
    refine WE.thenExit ?_
    refine WE.thenExit ?_
    refine WE.exitHere ?_
    refine WE.then ?_
    refine WC.seq ?_
    refine WC.region ?_
    refine WL.y0' guard_none (Y0.loadLA 2 ag27 rfl rfl rfl) rfl ?_
    refine WL.storeLA 4 guard_none sz27 rfl rfl rfl rfl rfl rfl ?_
    refine WL.nil ?_
    refine WE.then ?_
    refine WC.ret ?_
    refine WE.ret1 rfl (RV.cellA (i := 4) ag27 rfl rfl rfl) ?_
    rfl

theorem mMul (a b : M) (ha : Sm a) (hb : Sm b) : Ctr Try.prog 13 #[.agg (vecA a), .agg (vecA b)] (fun G => True) (fun G r => r = if Ok (addM a b) then .tuple #[.agg (vecA (addM a b)), .int .i64 0] else .tuple #[.agg (vecA zeroM), .int .i64 2]) := by
  refine Ctr.enter (args := [_, _]) (N := 24) Try.func13 rfl rfl rfl (fun w0 G0 hL0 hpre => ?_)
  refine WC.seq ?_
  refine WC.region ?_
  refine WL.box 2 guard_none rfl rfl (fun b2 => ?_)
  refine WL.box 3 guard_none rfl rfl (fun b3 => ?_)
  refine WL.alloc 4 guard_none z27 rfl (fun b4 => ?_)
  refine WL.y0' guard_none (Y0.assign rfl) rfl ?_
  refine WL.nil ?_
  refine WE.then ?_
  refine WC.seq ?_
  refine WC.seq ?_
  refine WC.region ?_
  refine WL.y0' guard_none (Y0.move rfl) rfl ?_
  refine WL.nil ?_
  refine WE.then ?_
  refine WC.block ?_
  refine WC.loopH (fun (x : Nat) => [(2, .pointer (some ⟨b2, 0, none⟩)), (3, .pointer (some ⟨b3, 0, none⟩)), (4, .pointer (some ⟨b4, 0, none⟩)), (7, .int .i64 (x : Int))]) (fun (x : Nat) => x ≤ 8) (fun (x : Nat) => St w0 G0 G0 [(2, b2, .cells (vecA (mixM x (addM a b) a)) 27 (0, 0)), (3, b3, .cells (vecA b) 27 (0, 0)), (4, b4, .cells (vecA zeroM) 27 (0, 0))]) (fun (x : Nat) => 8 - x) 0 ?_ ?_ ?_ ?_
  · exact Fr.sub_cons rfl (Fr.sub_cons rfl (Fr.sub_cons rfl (Fr.sub_cons rfl (Fr.sub_nil _))))
  · omega
  · rw [mix_zero]; exact St.conseqL (Lo.sub_cons (rfl) (Lo.sub_cons (rfl) (Lo.sub_cons (rfl) (Lo.sub_nil _))))
  rintro x hx
  have hk := hx
  refine WC.seq ?_
  refine WC.region ?_
  refine WL.caseY0 guard_none (Y0.lss rfl rfl) rfl (fun h8 => ?_) (fun h8 => ?_)
  · skip
    have hn : x < 8 := by omega
    have hax := ha ⟨x, hn⟩
    have hbx := hb ⟨x, hn⟩
    refine WL.nil ?_
    refine WE.then ?_
    refine WC.seq ?_
    refine WC.condT rfl ?_
    refine WC.skip ?_
    refine WE.then ?_
    refine WC.seq ?_
    refine WC.block ?_
    refine WC.seq ?_
    refine WC.region ?_
    refine WL.y0' guard_none (Y0.move rfl) rfl ?_
    refine WL.y0' guard_none (Y0.assign rfl) rfl ?_
    refine WL.nil ?_
    refine WE.then ?_
    refine WC.drawn [false, false, false, false, false, false, false, false] mix (by kernel_rfl) (fun hb => ?_)
    refine Chain.y0 guard_none (fun _ hle => Y0.move rfl) ?_
    first | refine Chain.y0 guard_none (fun _ hle => Y0.idxArr1 Try.underlying27 sz3 rfl rfl (by omega)) ?_ | refine Chain.y0 guard_none (fun _ hle => Y0.idxArr Try.underlying27 sz3 rfl rfl (by omega)) ?_
    refine Chain.y0 guard_none (fun _ hle => Y0.loadL 2 sc3 rfl rfl (mix_get _ _ hn)) ?_
    refine Chain.y0 guard_none (fun _ hle => Y0.move rfl) ?_
    first | refine Chain.y0 guard_none (fun _ hle => Y0.idxArr1 Try.underlying27 sz3 rfl rfl (by omega)) ?_ | refine Chain.y0 guard_none (fun _ hle => Y0.idxArr Try.underlying27 sz3 rfl rfl (by omega)) ?_
    refine Chain.y0 guard_none (fun _ hle => Y0.loadL 3 sc3 rfl rfl (vecA_get _ hn)) ?_
    first | refine Chain.y0 guard_none (fun _ hle => Y0.addI rfl rfl (by omega)) ?_ | refine Chain.y0 guard_none (fun _ hle => Y0.add rfl rfl) ?_
    first | refine Chain.y0 guard_none (fun _ hle => Y0.idxArr1 Try.underlying27 sz3 rfl rfl (by omega)) ?_ | refine Chain.y0 guard_none (fun _ hle => Y0.idxArr Try.underlying27 sz3 rfl rfl (by omega)) ?_
    refine Chain.tail0 hb ?_
    refine WL.storeL 2 guard_none sz3 rfl rfl rfl (by first | decide | exact hn | (simp; omega)) rfl ?_
    refine WL.nil ?_
    refine WE.nx ?_
    refine WE.inBlock ?_
    refine WE.then ?_
    refine WC.region ?_
    first | refine WL.y0' guard_none (Y0.addI rfl rfl (by omega)) rfl ?_ | refine WL.y0' guard_none (Y0.add rfl rfl) rfl ?_
    refine WL.y0' guard_none (Y0.move rfl) rfl ?_
    refine WL.nil ?_
    refine WE.backH (x + 1) ?_ ?_ ?_ ?_
    · omega
    · exact Fr.sub_cons rfl (Fr.sub_cons rfl (Fr.sub_cons rfl (Fr.sub_cons rfl (Fr.sub_nil _))))
    · exact St.conseqL (Lo.sub_cons (congrArg (fun c => some (b2, Obj.cells c 27 (0, 0))) (vec_step (addM a b) a hn)) (Lo.sub_cons (rfl) (Lo.sub_cons (rfl) (Lo.sub_nil _))))
    · omega
  · skip
    have hend : ¬ x < 8 := by omega
    rw [mix_all _ _ hend]
    refine WL.nil ?_
    refine WE.then ?_
    refine WC.seq ?_
    refine WC.condF rfl ?_
    refine WC.exit ?_
    refine WE.thenExit ?_
    refine WE.thenExit ?_
    refine WE.exitHere ?_
    refine WE.then ?_
    refine WC.seq ?_
    refine WC.seq ?_
    refine WC.region ?_
    refine WL.y0' guard_none (Y0.loadLA 2 ag27 rfl rfl rfl) rfl ?_
    refine WL.call0 guard_none rfl (YC.of E29 rfl) (mValid _) rfl (trivial) ?_
    refine WL.caseY0 guard_none (Y0.notD rfl) rfl (fun h21 => ?_) (fun h21 => ?_)
    · skip
      refine WL.nil ?_
      refine WE.then ?_
      refine WC.condT rfl ?_
      refine WC.seq ?_
      refine WC.region ?_
      refine WL.y0' guard_none (Y0.buildM0 bz27) rfl ?_
      refine WL.storeLA 4 guard_none sz27 rfl rfl rfl rfl rfl rfl ?_
      refine WL.y0' guard_none (Y0.assign rfl) rfl ?_
      refine WL.nil ?_
      refine WE.then ?_
      refine WC.ret ?_
      refine WE.thenRet ?_
      refine WE.ret2 rfl (RV.cellA (i := 4) ag27 rfl rfl rfl) rfl ?_
      exact (if_neg h21).symm
    · skip
      refine WL.nil ?_
      refine WE.then ?_
      refine WC.condF rfl ?_
      refine WC.skip ?_
      refine WE.then ?_
      refine WC.seq ?_
      refine WC.region ?_
      refine WL.y0' guard_none (Y0.loadLA 2 ag27 rfl rfl rfl) rfl ?_
      refine WL.storeLA 4 guard_none sz27 rfl rfl rfl rfl rfl rfl ?_
      refine WL.y0' guard_none (Y0.assign rfl) rfl ?_
      refine WL.nil ?_
      refine WE.then ?_
      refine WC.ret ?_
      refine WE.ret2 rfl (RV.cellA (i := 4) ag27 rfl rfl rfl) rfl ?_
      exact (if_pos (Classical.not_not.1 h21)).symm

theorem mQuo (a b : M) (ha : Sm a) (hb : Sm b) : Ctr Try.prog 15 #[.agg (vecA a), .agg (vecA b)] (fun G => True) (fun G r => r = if dvdM b a then .tuple #[.agg (vecA (subM a b)), .bool true] else .tuple #[.agg (vecA zeroM), .bool false]) := by
  refine Ctr.enter (args := [_, _]) (N := 25) Try.func15 rfl rfl rfl (fun w0 G0 hL0 hpre => ?_)
  refine WC.seq ?_
  refine WC.region ?_
  refine WL.box 2 guard_none rfl rfl (fun b2 => ?_)
  refine WL.box 3 guard_none rfl rfl (fun b3 => ?_)
  refine WL.alloc 4 guard_none z27 rfl (fun b4 => ?_)
  refine WL.y0' guard_none (Y0.assign rfl) rfl ?_
  refine WL.nil ?_
  refine WE.then ?_
  refine WC.seq ?_
  refine WC.seq ?_
  refine WC.region ?_
  refine WL.y0' guard_none (Y0.loadLA 3 ag27 rfl rfl rfl) rfl ?_
  refine WL.y0' guard_none (Y0.loadLA 2 ag27 rfl rfl rfl) rfl ?_
  refine WL.call0 guard_none rfl (YC.of E17 rfl) (mDivides _ _) rfl (trivial) ?_
  refine WL.caseY0 guard_none (Y0.notD rfl) rfl (fun h10 => ?_) (fun h10 => ?_)
  · skip
    refine WL.nil ?_
    refine WE.then ?_
    refine WC.condT rfl ?_
    refine WC.seq ?_
    refine WC.region ?_
    refine WL.y0' guard_none (Y0.buildM0 bz27) rfl ?_
    refine WL.storeLA 4 guard_none sz27 rfl rfl rfl rfl rfl rfl ?_
    refine WL.y0' guard_none (Y0.assign rfl) rfl ?_
    refine WL.nil ?_
    refine WE.then ?_
    refine WC.ret ?_
    refine WE.thenRet ?_
    refine WE.ret2 rfl (RV.cellA (i := 4) ag27 rfl rfl rfl) rfl ?_
    exact (if_neg h10).symm
  · skip
    refine WL.nil ?_
    refine WE.then ?_
    refine WC.condF rfl ?_
    refine WC.skip ?_
    refine WE.then ?_
    refine WC.seq ?_
    refine WC.seq ?_
    refine WC.region ?_
    refine WL.y0' guard_none (Y0.move rfl) rfl ?_
    refine WL.nil ?_
    refine WE.then ?_
    refine WC.block ?_
    refine WC.loopH (fun (x : Nat) => [(2, .pointer (some ⟨b2, 0, none⟩)), (3, .pointer (some ⟨b3, 0, none⟩)), (4, .pointer (some ⟨b4, 0, none⟩)), (12, .int .i64 (x : Int))]) (fun (x : Nat) => x ≤ 8) (fun (x : Nat) => St w0 G0 G0 [(2, b2, .cells (vecA (mixM x (subM a b) a)) 27 (0, 0)), (3, b3, .cells (vecA b) 27 (0, 0)), (4, b4, .cells (vecA zeroM) 27 (0, 0))]) (fun (x : Nat) => 8 - x) 0 ?_ ?_ ?_ ?_
    · exact Fr.sub_cons rfl (Fr.sub_cons rfl (Fr.sub_cons rfl (Fr.sub_cons rfl (Fr.sub_nil _))))
    · omega
    · rw [mix_zero]; exact St.conseqL (Lo.sub_cons (rfl) (Lo.sub_cons (rfl) (Lo.sub_cons (rfl) (Lo.sub_nil _))))
    rintro x hx
    have hk := hx
    refine WC.seq ?_
    refine WC.region ?_
    refine WL.caseY0 guard_none (Y0.lss rfl rfl) rfl (fun h13 => ?_) (fun h13 => ?_)
    · skip
      have hn : x < 8 := by omega
      have hax := ha ⟨x, hn⟩
      have hbx := hb ⟨x, hn⟩
      refine WL.nil ?_
      refine WE.then ?_
      refine WC.seq ?_
      refine WC.condT rfl ?_
      refine WC.skip ?_
      refine WE.then ?_
      refine WC.seq ?_
      refine WC.block ?_
      refine WC.seq ?_
      refine WC.region ?_
      refine WL.y0' guard_none (Y0.move rfl) rfl ?_
      refine WL.y0' guard_none (Y0.assign rfl) rfl ?_
      refine WL.nil ?_
      refine WE.then ?_
      refine WC.drawn [false, false, false, false, false, false, false, false] mix (by kernel_rfl) (fun hb => ?_)
      refine Chain.y0 guard_none (fun _ hle => Y0.move rfl) ?_
      first | refine Chain.y0 guard_none (fun _ hle => Y0.idxArr1 Try.underlying27 sz3 rfl rfl (by omega)) ?_ | refine Chain.y0 guard_none (fun _ hle => Y0.idxArr Try.underlying27 sz3 rfl rfl (by omega)) ?_
      refine Chain.y0 guard_none (fun _ hle => Y0.loadL 2 sc3 rfl rfl (mix_get _ _ hn)) ?_
      refine Chain.y0 guard_none (fun _ hle => Y0.move rfl) ?_
      first | refine Chain.y0 guard_none (fun _ hle => Y0.idxArr1 Try.underlying27 sz3 rfl rfl (by omega)) ?_ | refine Chain.y0 guard_none (fun _ hle => Y0.idxArr Try.underlying27 sz3 rfl rfl (by omega)) ?_
      refine Chain.y0 guard_none (fun _ hle => Y0.loadL 3 sc3 rfl rfl (vecA_get _ hn)) ?_
      first | refine Chain.y0 guard_none (fun _ hle => Y0.subI rfl rfl (by omega)) ?_ | refine Chain.y0 guard_none (fun _ hle => Y0.sub rfl rfl) ?_
      first | refine Chain.y0 guard_none (fun _ hle => Y0.idxArr1 Try.underlying27 sz3 rfl rfl (by omega)) ?_ | refine Chain.y0 guard_none (fun _ hle => Y0.idxArr Try.underlying27 sz3 rfl rfl (by omega)) ?_
      refine Chain.tail0 hb ?_
      refine WL.storeL 2 guard_none sz3 rfl rfl rfl (by first | decide | exact hn | (simp; omega)) rfl ?_
      refine WL.nil ?_
      refine WE.nx ?_
      refine WE.inBlock ?_
      refine WE.then ?_
      refine WC.region ?_
      first | refine WL.y0' guard_none (Y0.addI rfl rfl (by omega)) rfl ?_ | refine WL.y0' guard_none (Y0.add rfl rfl) rfl ?_
      refine WL.y0' guard_none (Y0.move rfl) rfl ?_
      refine WL.nil ?_
      refine WE.backH (x + 1) ?_ ?_ ?_ ?_
      · omega
      · exact Fr.sub_cons rfl (Fr.sub_cons rfl (Fr.sub_cons rfl (Fr.sub_cons rfl (Fr.sub_nil _))))
      · exact St.conseqL (Lo.sub_cons (congrArg (fun c => some (b2, Obj.cells c 27 (0, 0))) (vec_step (subM a b) a hn)) (Lo.sub_cons (rfl) (Lo.sub_cons (rfl) (Lo.sub_nil _))))
      · omega
    · skip
      have hend : ¬ x < 8 := by omega
      rw [mix_all _ _ hend]
      refine WL.nil ?_
      refine WE.then ?_
      refine WC.seq ?_
      refine WC.condF rfl ?_
      refine WC.exit ?_
      refine WE.thenExit ?_
      refine WE.thenExit ?_
      refine WE.exitHere ?_
      refine WE.then ?_
      refine WC.seq ?_
      refine WC.region ?_
      refine WL.y0' guard_none (Y0.loadLA 2 ag27 rfl rfl rfl) rfl ?_
      refine WL.storeLA 4 guard_none sz27 rfl rfl rfl rfl rfl rfl ?_
      refine WL.y0' guard_none (Y0.assign rfl) rfl ?_
      refine WL.nil ?_
      refine WE.then ?_
      refine WC.ret ?_
      refine WE.ret2 rfl (RV.cellA (i := 4) ag27 rfl rfl rfl) rfl ?_
      exact (if_pos (Classical.not_not.1 h10)).symm

theorem rMul (a b : M) (ha : Sm a) (hb : Sm b) : Ctr Try.prog 14 #[.agg (vecA a), .agg (vecA b)] (fun G => True) (fun G r => r = if Ok (addM a b) then .tuple #[.agg (vecA (addM a b)), .int .i64 0] else .tuple #[.agg (vecA zeroM), .int .i64 2]) := by
  refine Ctr.enter (args := [_, _]) (N := 24) Try.func14 rfl rfl rfl (fun w0 G0 hL0 hpre => ?_)
  refine WC.seq ?_
  refine WC.region ?_
  refine WL.box 2 guard_none rfl rfl (fun b2 => ?_)
  refine WL.box 3 guard_none rfl rfl (fun b3 => ?_)
  refine WL.alloc 4 guard_none z27 rfl (fun b4 => ?_)
  refine WL.y0' guard_none (Y0.assign rfl) rfl ?_
  refine WL.nil ?_
  refine WE.then ?_
  refine WC.seq ?_
  refine WC.seq ?_
  refine WC.region ?_
  refine WL.y0' guard_none (Y0.assign rfl) rfl ?_
  refine WL.nil ?_
  refine WE.then ?_
  refine WC.block ?_
  refine WC.loopH (fun (x : Nat) => [(2, .pointer (some ⟨b2, 0, none⟩)), (3, .pointer (some ⟨b3, 0, none⟩)), (4, .pointer (some ⟨b4, 0, none⟩)), (6, .int .i64 (x : Int))]) (fun (x : Nat) => x ≤ 8) (fun (x : Nat) => St w0 G0 G0 [(2, b2, .cells (vecA (mixM x (addM a b) a)) 27 (0, 0)), (3, b3, .cells (vecA b) 27 (0, 0)), (4, b4, .cells (vecA zeroM) 27 (0, 0))]) (fun (x : Nat) => 8 - x) 0 ?_ ?_ ?_ ?_
  · exact Fr.sub_cons rfl (Fr.sub_cons rfl (Fr.sub_cons rfl (Fr.sub_cons rfl (Fr.sub_nil _))))
  · omega
  · rw [mix_zero]; exact St.conseqL (Lo.sub_cons (rfl) (Lo.sub_cons (rfl) (Lo.sub_cons (rfl) (Lo.sub_nil _))))
  rintro x hx
  have hk := hx
  refine WC.seq ?_
  refine WC.seq ?_
  refine WC.region ?_
  refine WL.y0' guard_none (Y0.move rfl) rfl ?_
  refine WL.caseY0 guard_none (Y0.lss rfl rfl) rfl (fun h8 => ?_) (fun h8 => ?_)
  · skip
    have hn : x < 8 := by omega
    have hax := ha ⟨x, hn⟩
    have hbx := hb ⟨x, hn⟩
    refine WL.nil ?_
    refine WE.then ?_
    refine WC.condT rfl ?_
    refine WC.skip ?_
    refine WE.then ?_
    refine WC.seq ?_
    refine WC.block ?_
    refine WC.drawn [false, false, false, false, false, false, false, false] mix (by kernel_rfl) (fun hb => ?_)
    refine Chain.y0 guard_none (fun _ hle => Y0.move rfl) ?_
    first | refine Chain.y0 guard_none (fun _ hle => Y0.idxArr1 Try.underlying27 sz3 rfl rfl (by omega)) ?_ | refine Chain.y0 guard_none (fun _ hle => Y0.idxArr Try.underlying27 sz3 rfl rfl (by omega)) ?_
    refine Chain.y0 guard_none (fun _ hle => Y0.loadL 2 sc3 rfl rfl (mix_get _ _ hn)) ?_
    refine Chain.y0 guard_none (fun _ hle => Y0.move rfl) ?_
    first | refine Chain.y0 guard_none (fun _ hle => Y0.idxArr1 Try.underlying27 sz3 rfl rfl (by omega)) ?_ | refine Chain.y0 guard_none (fun _ hle => Y0.idxArr Try.underlying27 sz3 rfl rfl (by omega)) ?_
    refine Chain.y0 guard_none (fun _ hle => Y0.loadL 3 sc3 rfl rfl (vecA_get _ hn)) ?_
    first | refine Chain.y0 guard_none (fun _ hle => Y0.addI rfl rfl (by omega)) ?_ | refine Chain.y0 guard_none (fun _ hle => Y0.add rfl rfl) ?_
    first | refine Chain.y0 guard_none (fun _ hle => Y0.idxArr1 Try.underlying27 sz3 rfl rfl (by omega)) ?_ | refine Chain.y0 guard_none (fun _ hle => Y0.idxArr Try.underlying27 sz3 rfl rfl (by omega)) ?_
    refine Chain.tail0 hb ?_
    refine WL.storeL 2 guard_none sz3 rfl rfl rfl (by first | decide | exact hn | (simp; omega)) rfl ?_
    refine WL.nil ?_
    refine WE.nx ?_
    refine WE.inBlock ?_
    refine WE.then ?_
    refine WC.region ?_
    refine WL.y0' guard_none (Y0.move rfl) rfl ?_
    first | refine WL.y0' guard_none (Y0.addI rfl rfl (by omega)) rfl ?_ | refine WL.y0' guard_none (Y0.add rfl rfl) rfl ?_
    refine WL.y0' guard_none (Y0.assign rfl) rfl ?_
    refine WL.nil ?_
    refine WE.backH (x + 1) ?_ ?_ ?_ ?_
    · omega
    · exact Fr.sub_cons rfl (Fr.sub_cons rfl (Fr.sub_cons rfl (Fr.sub_cons rfl (Fr.sub_nil _))))
    · exact St.conseqL (Lo.sub_cons (congrArg (fun c => some (b2, Obj.cells c 27 (0, 0))) (vec_step (addM a b) a hn)) (Lo.sub_cons (rfl) (Lo.sub_cons (rfl) (Lo.sub_nil _))))
    · omega
  · skip
    have hend : ¬ x < 8 := by omega
    rw [mix_all _ _ hend]
    refine WL.nil ?_
    refine WE.then ?_
    refine WC.condF rfl ?_
    refine WC.exit ?_
    refine WE.thenExit ?_
    refine WE.thenExit ?_
    refine WE.exitHere ?_
    refine WE.then ?_
    refine WC.seq ?_
    refine WC.seq ?_
    refine WC.region ?_
    refine WL.y0' guard_none (Y0.loadLA 2 ag27 rfl rfl rfl) rfl ?_
    refine WL.call0 guard_none rfl (YC.of E31 rfl) (rValid _) rfl (trivial) ?_
    refine WL.caseY0 guard_none (Y0.notD rfl) rfl (fun h21 => ?_) (fun h21 => ?_)
    · skip
      refine WL.nil ?_
      refine WE.then ?_
      refine WC.condT rfl ?_
      refine WC.seq ?_
      refine WC.region ?_
      refine WL.y0' guard_none (Y0.buildM0 bz27) rfl ?_
      refine WL.storeLA 4 guard_none sz27 rfl rfl rfl rfl rfl rfl ?_
      refine WL.y0' guard_none (Y0.assign rfl) rfl ?_
      refine WL.nil ?_
      refine WE.then ?_
      refine WC.ret ?_
      refine WE.thenRet ?_
      refine WE.ret2 rfl (RV.cellA (i := 4) ag27 rfl rfl rfl) rfl ?_
      exact (if_neg h21).symm
    · skip
      refine WL.nil ?_
      refine WE.then ?_
      refine WC.condF rfl ?_
      refine WC.skip ?_
      refine WE.then ?_
      refine WC.seq ?_
      refine WC.region ?_
      refine WL.y0' guard_none (Y0.loadLA 2 ag27 rfl rfl rfl) rfl ?_
      refine WL.storeLA 4 guard_none sz27 rfl rfl rfl rfl rfl rfl ?_
      refine WL.y0' guard_none (Y0.assign rfl) rfl ?_
      refine WL.nil ?_
      refine WE.then ?_
      refine WC.ret ?_
      refine WE.ret2 rfl (RV.cellA (i := 4) ag27 rfl rfl rfl) rfl ?_
      exact (if_pos (Classical.not_not.1 h21)).symm

theorem rQuo (a b : M) (ha : Sm a) (hb : Sm b) : Ctr Try.prog 16 #[.agg (vecA a), .agg (vecA b)] (fun G => True) (fun G r => r = if dvdM b a then .tuple #[.agg (vecA (subM a b)), .bool true] else .tuple #[.agg (vecA zeroM), .bool false]) := by
  refine Ctr.enter (args := [_, _]) (N := 25) Try.func16 rfl rfl rfl (fun w0 G0 hL0 hpre => ?_)
  refine WC.seq ?_
  refine WC.region ?_
  refine WL.box 2 guard_none rfl rfl (fun b2 => ?_)
  refine WL.box 3 guard_none rfl rfl (fun b3 => ?_)
  refine WL.alloc 4 guard_none z27 rfl (fun b4 => ?_)
  refine WL.y0' guard_none (Y0.assign rfl) rfl ?_
  refine WL.nil ?_
  refine WE.then ?_
  refine WC.seq ?_
  refine WC.seq ?_
  refine WC.region ?_
  refine WL.y0' guard_none (Y0.loadLA 3 ag27 rfl rfl rfl) rfl ?_
  refine WL.y0' guard_none (Y0.loadLA 2 ag27 rfl rfl rfl) rfl ?_
  refine WL.call0 guard_none rfl (YC.of E18 rfl) (rDivides _ _) rfl (trivial) ?_
  refine WL.caseY0 guard_none (Y0.notD rfl) rfl (fun h10 => ?_) (fun h10 => ?_)
  · skip
    refine WL.nil ?_
    refine WE.then ?_
    refine WC.condT rfl ?_
    refine WC.seq ?_
    refine WC.region ?_
    refine WL.y0' guard_none (Y0.buildM0 bz27) rfl ?_
    refine WL.storeLA 4 guard_none sz27 rfl rfl rfl rfl rfl rfl ?_
    refine WL.y0' guard_none (Y0.assign rfl) rfl ?_
    refine WL.nil ?_
    refine WE.then ?_
    refine WC.ret ?_
    refine WE.thenRet ?_
    refine WE.ret2 rfl (RV.cellA (i := 4) ag27 rfl rfl rfl) rfl ?_
    exact (if_neg h10).symm
  · skip
    refine WL.nil ?_
    refine WE.then ?_
    refine WC.condF rfl ?_
    refine WC.skip ?_
    refine WE.then ?_
    refine WC.seq ?_
    refine WC.seq ?_
    refine WC.region ?_
    refine WL.y0' guard_none (Y0.assign rfl) rfl ?_
    refine WL.nil ?_
    refine WE.then ?_
    refine WC.block ?_
    refine WC.loopH (fun (x : Nat) => [(2, .pointer (some ⟨b2, 0, none⟩)), (3, .pointer (some ⟨b3, 0, none⟩)), (4, .pointer (some ⟨b4, 0, none⟩)), (6, .int .i64 (x : Int))]) (fun (x : Nat) => x ≤ 8) (fun (x : Nat) => St w0 G0 G0 [(2, b2, .cells (vecA (mixM x (subM a b) a)) 27 (0, 0)), (3, b3, .cells (vecA b) 27 (0, 0)), (4, b4, .cells (vecA zeroM) 27 (0, 0))]) (fun (x : Nat) => 8 - x) 0 ?_ ?_ ?_ ?_
    · exact Fr.sub_cons rfl (Fr.sub_cons rfl (Fr.sub_cons rfl (Fr.sub_cons rfl (Fr.sub_nil _))))
    · omega
    · rw [mix_zero]; exact St.conseqL (Lo.sub_cons (rfl) (Lo.sub_cons (rfl) (Lo.sub_cons (rfl) (Lo.sub_nil _))))
    rintro x hx
    have hk := hx
    refine WC.seq ?_
    refine WC.seq ?_
    refine WC.region ?_
    refine WL.y0' guard_none (Y0.move rfl) rfl ?_
    refine WL.caseY0 guard_none (Y0.lss rfl rfl) rfl (fun h13 => ?_) (fun h13 => ?_)
    · skip
      have hn : x < 8 := by omega
      have hax := ha ⟨x, hn⟩
      have hbx := hb ⟨x, hn⟩
      refine WL.nil ?_
      refine WE.then ?_
      refine WC.condT rfl ?_
      refine WC.skip ?_
      refine WE.then ?_
      refine WC.seq ?_
      refine WC.block ?_
      refine WC.drawn [false, false, false, false, false, false, false, false] mix (by kernel_rfl) (fun hb => ?_)
      refine Chain.y0 guard_none (fun _ hle => Y0.move rfl) ?_
      first | refine Chain.y0 guard_none (fun _ hle => Y0.idxArr1 Try.underlying27 sz3 rfl rfl (by omega)) ?_ | refine Chain.y0 guard_none (fun _ hle => Y0.idxArr Try.underlying27 sz3 rfl rfl (by omega)) ?_
      refine Chain.y0 guard_none (fun _ hle => Y0.loadL 2 sc3 rfl rfl (mix_get _ _ hn)) ?_
      refine Chain.y0 guard_none (fun _ hle => Y0.move rfl) ?_
      first | refine Chain.y0 guard_none (fun _ hle => Y0.idxArr1 Try.underlying27 sz3 rfl rfl (by omega)) ?_ | refine Chain.y0 guard_none (fun _ hle => Y0.idxArr Try.underlying27 sz3 rfl rfl (by omega)) ?_
      refine Chain.y0 guard_none (fun _ hle => Y0.loadL 3 sc3 rfl rfl (vecA_get _ hn)) ?_
      first | refine Chain.y0 guard_none (fun _ hle => Y0.subI rfl rfl (by omega)) ?_ | refine Chain.y0 guard_none (fun _ hle => Y0.sub rfl rfl) ?_
      first | refine Chain.y0 guard_none (fun _ hle => Y0.idxArr1 Try.underlying27 sz3 rfl rfl (by omega)) ?_ | refine Chain.y0 guard_none (fun _ hle => Y0.idxArr Try.underlying27 sz3 rfl rfl (by omega)) ?_
      refine Chain.tail0 hb ?_
      refine WL.storeL 2 guard_none sz3 rfl rfl rfl (by first | decide | exact hn | (simp; omega)) rfl ?_
      refine WL.nil ?_
      refine WE.nx ?_
      refine WE.inBlock ?_
      refine WE.then ?_
      refine WC.region ?_
      refine WL.y0' guard_none (Y0.move rfl) rfl ?_
      first | refine WL.y0' guard_none (Y0.addI rfl rfl (by omega)) rfl ?_ | refine WL.y0' guard_none (Y0.add rfl rfl) rfl ?_
      refine WL.y0' guard_none (Y0.assign rfl) rfl ?_
      refine WL.nil ?_
      refine WE.backH (x + 1) ?_ ?_ ?_ ?_
      · omega
      · exact Fr.sub_cons rfl (Fr.sub_cons rfl (Fr.sub_cons rfl (Fr.sub_cons rfl (Fr.sub_nil _))))
      · exact St.conseqL (Lo.sub_cons (congrArg (fun c => some (b2, Obj.cells c 27 (0, 0))) (vec_step (subM a b) a hn)) (Lo.sub_cons (rfl) (Lo.sub_cons (rfl) (Lo.sub_nil _))))
      · omega
    · skip
      have hend : ¬ x < 8 := by omega
      rw [mix_all _ _ hend]
      refine WL.nil ?_
      refine WE.then ?_
      refine WC.condF rfl ?_
      refine WC.exit ?_
      refine WE.thenExit ?_
      refine WE.thenExit ?_
      refine WE.exitHere ?_
      refine WE.then ?_
      refine WC.seq ?_
      refine WC.region ?_
      refine WL.y0' guard_none (Y0.loadLA 2 ag27 rfl rfl rfl) rfl ?_
      refine WL.storeLA 4 guard_none sz27 rfl rfl rfl rfl rfl rfl ?_
      refine WL.y0' guard_none (Y0.assign rfl) rfl ?_
      refine WL.nil ?_
      refine WE.then ?_
      refine WC.ret ?_
      refine WE.ret2 rfl (RV.cellA (i := 4) ag27 rfl rfl rfl) rfl ?_
      exact (if_pos (Classical.not_not.1 h10)).symm

theorem mDegree (a : M) (ha : Sm a) : Ctr Try.prog 25 #[.agg (vecA a)] (fun G => True) (fun G r => r = .int .i64 (degM a)) := by
  refine Ctr.enter (args := [_]) (N := 15) Try.func25 rfl rfl rfl (fun w0 G0 hL0 hpre => ?_)
  refine WC.seq ?_
  refine WC.region ?_
  refine WL.box 1 guard_none rfl rfl (fun b1 => ?_)
  refine WL.y0' guard_none (Y0.assign rfl) rfl ?_
  refine WL.nil ?_
  refine WE.then ?_
  refine WC.seq ?_
  refine WC.region ?_
  refine WL.y0' guard_none (Y0.assign rfl) rfl ?_
  refine WL.nil ?_
  refine WE.then ?_
  refine WC.seq ?_
  refine WC.seq ?_
  refine WC.region ?_
  refine WL.y0' guard_none (Y0.loadLA 1 ag27 rfl rfl rfl) rfl ?_
  refine WL.y0' guard_none (Y0.move rfl) rfl ?_
  refine WL.nil ?_
  refine WE.then ?_
  refine WC.block ?_
  refine WC.loopH (fun (x : Nat) => [(1, .pointer (some ⟨b1, 0, none⟩)), (7, .int .i64 (x : Int)), (3, .int .i64 (degTo a x)), (6, .agg (vecA a))]) (fun (x : Nat) => x ≤ 8) (fun (x : Nat) => St w0 G0 G0 [(1, b1, .cells (vecA a) 27 (0, 0))]) (fun (x : Nat) => 8 - x) 0 ?_ ?_ ?_ ?_
  · exact Fr.sub_cons rfl (Fr.sub_cons rfl (Fr.sub_cons rfl (Fr.sub_cons rfl (Fr.sub_nil _))))
  · omega
  · exact St.conseqL (Lo.sub_cons (rfl) (Lo.sub_nil _))
  rintro x hx
  have hk := hx
  refine WC.seq ?_
  refine WC.region ?_
  refine WL.caseY0 guard_none (Y0.lss rfl rfl) rfl (fun h8 => ?_) (fun h8 => ?_)
  · skip
    have hn : x < 8 := by omega
    have hax := ha ⟨x, hn⟩
    have hd := degTo_le ha x (by omega)
    have hst := degTo_step a hn
    refine WL.nil ?_
    refine WE.then ?_
    refine WC.seq ?_
    refine WC.condT rfl ?_
    refine WC.skip ?_
    refine WE.then ?_
    refine WC.seq ?_
    refine WC.block ?_
    refine WC.seq ?_
    refine WC.region ?_
    refine WL.y0' guard_none (Y0.index Try.underlying27 sc3 sz3 rfl rfl (by omega) (vecA_get _ hn)) rfl ?_
    refine WL.y0' guard_none (Y0.assign rfl) rfl ?_
    refine WL.nil ?_
    refine WE.then ?_
    refine WC.region ?_
    refine WL.y0' guard_none (Y0.move rfl) rfl ?_
    refine WL.y0' guard_none (Y0.move rfl) rfl ?_
    first | refine WL.y0' guard_none (Y0.addI rfl rfl (by omega)) rfl ?_ | refine WL.y0' guard_none (Y0.add rfl rfl) rfl ?_
    refine WL.y0' guard_none (Y0.assign rfl) rfl ?_
    refine WL.nil ?_
    refine WE.inBlock ?_
    refine WE.then ?_
    refine WC.region ?_
    first | refine WL.y0' guard_none (Y0.addI rfl rfl (by omega)) rfl ?_ | refine WL.y0' guard_none (Y0.add rfl rfl) rfl ?_
    refine WL.y0' guard_none (Y0.move rfl) rfl ?_
    refine WL.nil ?_
    refine WE.backH (x + 1) ?_ ?_ ?_ ?_
    · omega
    · exact Fr.sub_cons rfl (Fr.sub_cons rfl (Fr.sub_cons (congrArg (fun z => some (Value.int .i64 z)) hst) (Fr.sub_cons rfl (Fr.sub_nil _))))
    · exact St.conseqL (Lo.sub_cons (rfl) (Lo.sub_nil _))
    · omega
  · skip
    refine WL.nil ?_
    refine WE.then ?_
    refine WC.seq ?_
    refine WC.condF rfl ?_
    refine WC.exit ?_
    refine WE.thenExit ?_
    refine WE.thenExit ?_
    refine WE.exitHere ?_
    refine WE.then ?_
    refine WC.seq ?_
    refine WC.region ?_
    refine WL.y0' guard_none (Y0.move rfl) rfl ?_
    refine WL.y0' guard_none (Y0.assign rfl) rfl ?_
    refine WL.nil ?_
    refine WE.then ?_
    refine WC.ret ?_
    refine WE.ret1 rfl rfl ?_
    exact congrArg (fun k => Value.int .i64 (degTo a k)) (by omega : x = 8)

theorem rDegree (a : M) (ha : Sm a) : Ctr Try.prog 26 #[.agg (vecA a)] (fun G => True) (fun G r => r = .int .i64 (degM a)) := by
  refine Ctr.enter (args := [_]) (N := 15) Try.func26 rfl rfl rfl (fun w0 G0 hL0 hpre => ?_)
  refine WC.seq ?_
  refine WC.region ?_
  refine WL.box 1 guard_none rfl rfl (fun b1 => ?_)
  refine WL.y0' guard_none (Y0.assign rfl) rfl ?_
  refine WL.nil ?_
  refine WE.then ?_
  refine WC.seq ?_
  refine WC.region ?_
  refine WL.y0' guard_none (Y0.assign rfl) rfl ?_
  refine WL.nil ?_
  refine WE.then ?_
  refine WC.seq ?_
  refine WC.seq ?_
  refine WC.region ?_
  refine WL.y0' guard_none (Y0.assign rfl) rfl ?_
  refine WL.nil ?_
  refine WE.then ?_
  refine WC.block ?_
  refine WC.loopH (fun (x : Nat) => [(1, .pointer (some ⟨b1, 0, none⟩)), (4, .int .i64 (x : Int)), (3, .int .i64 (degTo a x))]) (fun (x : Nat) => x ≤ 8) (fun (x : Nat) => St w0 G0 G0 [(1, b1, .cells (vecA a) 27 (0, 0))]) (fun (x : Nat) => 8 - x) 0 ?_ ?_ ?_ ?_
  · exact Fr.sub_cons rfl (Fr.sub_cons rfl (Fr.sub_cons rfl (Fr.sub_nil _)))
  · omega
  · exact St.conseqL (Lo.sub_cons (rfl) (Lo.sub_nil _))
  rintro x hx
  have hk := hx
  refine WC.seq ?_
  refine WC.seq ?_
  refine WC.region ?_
  refine WL.y0' guard_none (Y0.move rfl) rfl ?_
  refine WL.caseY0 guard_none (Y0.lss rfl rfl) rfl (fun h6 => ?_) (fun h6 => ?_)
  · skip
    have hn : x < 8 := by omega
    have hax := ha ⟨x, hn⟩
    have hd := degTo_le ha x (by omega)
    have hst := degTo_step a hn
    refine WL.nil ?_
    refine WE.then ?_
    refine WC.condT rfl ?_
    refine WC.skip ?_
    refine WE.then ?_
    refine WC.seq ?_
    refine WC.block ?_
    refine WC.region ?_
    refine WL.y0' guard_none (Y0.move rfl) rfl ?_
    refine WL.y0' guard_none (Y0.move rfl) rfl ?_
    first | refine WL.y0' guard_none (Y0.idxArr1 Try.underlying27 sz3 rfl rfl (by omega)) rfl ?_ | refine WL.y0' guard_none (Y0.idxArr Try.underlying27 sz3 rfl rfl (by omega)) rfl ?_
    refine WL.y0' guard_none (Y0.loadL 1 sc3 rfl rfl (vecA_get _ hn)) rfl ?_
    first | refine WL.y0' guard_none (Y0.addI rfl rfl (by omega)) rfl ?_ | refine WL.y0' guard_none (Y0.add rfl rfl) rfl ?_
    refine WL.y0' guard_none (Y0.assign rfl) rfl ?_
    refine WL.nil ?_
    refine WE.inBlock ?_
    refine WE.then ?_
    refine WC.region ?_
    refine WL.y0' guard_none (Y0.move rfl) rfl ?_
    first | refine WL.y0' guard_none (Y0.addI rfl rfl (by omega)) rfl ?_ | refine WL.y0' guard_none (Y0.add rfl rfl) rfl ?_
    refine WL.y0' guard_none (Y0.assign rfl) rfl ?_
    refine WL.nil ?_
    refine WE.backH (x + 1) ?_ ?_ ?_ ?_
    · omega
    · exact Fr.sub_cons rfl (Fr.sub_cons rfl (Fr.sub_cons (congrArg (fun z => some (Value.int .i64 z)) hst) (Fr.sub_nil _)))
    · exact St.conseqL (Lo.sub_cons (rfl) (Lo.sub_nil _))
    · omega
  · skip
    refine WL.nil ?_
    refine WE.then ?_
    refine WC.condF rfl ?_
    refine WC.exit ?_
    refine WE.thenExit ?_
    refine WE.thenExit ?_
    refine WE.exitHere ?_
    refine WE.then ?_
    refine WC.seq ?_
    refine WC.region ?_
    refine WL.y0' guard_none (Y0.move rfl) rfl ?_
    refine WL.y0' guard_none (Y0.assign rfl) rfl ?_
    refine WL.nil ?_
    refine WE.then ?_
    refine WC.ret ?_
    refine WE.ret1 rfl rfl ?_
    exact congrArg (fun k => Value.int .i64 (degTo a k)) (by omega : x = 8)

theorem rCmp (a b : M) : Ctr Try.prog 20 #[.agg (vecA a), .agg (vecA b)] (fun G => True) (fun G r => r = .int .i64 (cmpM a b)) := by
  refine Ctr.enter (args := [_, _]) (N := 24) Try.func20 rfl rfl rfl (fun w0 G0 hL0 hpre => ?_)
  refine WC.seq ?_
  refine WC.region ?_
  refine WL.box 2 guard_none rfl rfl (fun b2 => ?_)
  refine WL.box 3 guard_none rfl rfl (fun b3 => ?_)
  refine WL.y0' guard_none (Y0.assign rfl) rfl ?_
  refine WL.nil ?_
  refine WE.then ?_
  refine WC.seq ?_
  refine WC.seq ?_
  refine WC.region ?_
  refine WL.y0' guard_none (Y0.assign rfl) rfl ?_
  refine WL.nil ?_
  refine WE.then ?_
  refine WC.block ?_
  refine WC.loopH (fun (x : Nat) => [(2, .pointer (some ⟨b2, 0, none⟩)), (3, .pointer (some ⟨b3, 0, none⟩)), (5, .int .i64 (x : Int))]) (fun (x : Nat) => x ≤ 8 ∧ ∀ i : Fin 8, i.val < x → a i = b i) (fun (x : Nat) => St w0 G0 G0 [(2, b2, .cells (vecA a) 27 (0, 0)), (3, b3, .cells (vecA b) 27 (0, 0))]) (fun (x : Nat) => 8 - x) 0 ?_ ?_ ?_ ?_
  · exact Fr.sub_cons rfl (Fr.sub_cons rfl (Fr.sub_cons rfl (Fr.sub_nil _)))
  · exact ⟨by omega, fun i h => by omega⟩
  · exact St.conseqL (Lo.sub_cons (rfl) (Lo.sub_cons (rfl) (Lo.sub_nil _)))
  rintro x hx
  obtain ⟨hk, hall⟩ := hx
  refine WC.seq ?_
  refine WC.seq ?_
  refine WC.region ?_
  refine WL.y0' guard_none (Y0.move rfl) rfl ?_
  refine WL.caseY0 guard_none (Y0.lss rfl rfl) rfl (fun h7 => ?_) (fun h7 => ?_)
  · skip
    have hn : x < 8 := by omega
    refine WL.nil ?_
    refine WE.then ?_
    refine WC.condT rfl ?_
    refine WC.skip ?_
    refine WE.then ?_
    refine WC.seq ?_
    refine WC.block ?_
    refine WC.seq ?_
    refine WC.seq ?_
    refine WC.drawn [false, false, false, false, false, false, false] mix (by kernel_rfl) (fun hb => ?_)
    refine Chain.y0 guard_none (fun _ hle => Y0.move rfl) ?_
    first | refine Chain.y0 guard_none (fun _ hle => Y0.idxArr1 Try.underlying27 sz3 rfl rfl (by omega)) ?_ | refine Chain.y0 guard_none (fun _ hle => Y0.idxArr Try.underlying27 sz3 rfl rfl (by omega)) ?_
    refine Chain.y0 guard_none (fun _ hle => Y0.loadL 2 sc3 rfl rfl (vecA_get _ hn)) ?_
    refine Chain.y0 guard_none (fun _ hle => Y0.move rfl) ?_
    first | refine Chain.y0 guard_none (fun _ hle => Y0.idxArr1 Try.underlying27 sz3 rfl rfl (by omega)) ?_ | refine Chain.y0 guard_none (fun _ hle => Y0.idxArr Try.underlying27 sz3 rfl rfl (by omega)) ?_
    refine Chain.y0 guard_none (fun _ hle => Y0.loadL 3 sc3 rfl rfl (vecA_get _ hn)) ?_
    refine Chain.caseY0 guard_none (fun _ hle => Y0.lss rfl rfl) (fun h16 => ?_) (fun h16 => ?_)
    · skip
      refine Chain.tail0 hb ?_
      refine WL.nil ?_
      refine WE.nx ?_
      refine WE.then ?_
      refine WC.condT rfl ?_
      refine WC.seq ?_
      refine WC.region ?_
      refine WL.y0' guard_none (Y0.assign rfl) rfl ?_
      refine WL.nil ?_
      refine WE.then ?_
      refine WC.ret ?_
      refine WE.thenRet ?_
      refine WE.inBlockRet ?_
      refine WE.thenRet ?_
      refine WE.thenRet ?_
      refine WE.inBlockRet ?_
      refine WE.thenRet ?_
      refine WE.ret1 rfl rfl ?_
      exact congrArg (Value.int .i64) (cmpM_lt a b hn hall h16).symm
    · skip
      refine Chain.tail0 hb ?_
      refine WL.nil ?_
      refine WE.nx ?_
      refine WE.then ?_
      refine WC.condF rfl ?_
      refine WC.skip ?_
      refine WE.then ?_
      refine WC.seq ?_
      refine WC.drawn [false, false, false, false, false, false, false] mix (by kernel_rfl) (fun hb => ?_)
      refine Chain.y0 guard_none (fun _ hle => Y0.move rfl) ?_
      first | refine Chain.y0 guard_none (fun _ hle => Y0.idxArr1 Try.underlying27 sz3 rfl rfl (by omega)) ?_ | refine Chain.y0 guard_none (fun _ hle => Y0.idxArr Try.underlying27 sz3 rfl rfl (by omega)) ?_
      refine Chain.y0 guard_none (fun _ hle => Y0.loadL 2 sc3 rfl rfl (vecA_get _ hn)) ?_
      refine Chain.y0 guard_none (fun _ hle => Y0.move rfl) ?_
      first | refine Chain.y0 guard_none (fun _ hle => Y0.idxArr1 Try.underlying27 sz3 rfl rfl (by omega)) ?_ | refine Chain.y0 guard_none (fun _ hle => Y0.idxArr Try.underlying27 sz3 rfl rfl (by omega)) ?_
      refine Chain.y0 guard_none (fun _ hle => Y0.loadL 3 sc3 rfl rfl (vecA_get _ hn)) ?_
      refine Chain.caseY0 guard_none (fun _ hle => Y0.gtr rfl rfl) (fun h23 => ?_) (fun h23 => ?_)
      · skip
        refine Chain.tail0 hb ?_
        refine WL.nil ?_
        refine WE.nx ?_
        refine WE.then ?_
        refine WC.condT rfl ?_
        refine WC.seq ?_
        refine WC.region ?_
        refine WL.y0' guard_none (Y0.assign rfl) rfl ?_
        refine WL.nil ?_
        refine WE.then ?_
        refine WC.ret ?_
        refine WE.inBlockRet ?_
        refine WE.thenRet ?_
        refine WE.thenRet ?_
        refine WE.inBlockRet ?_
        refine WE.thenRet ?_
        refine WE.ret1 rfl rfl ?_
        exact congrArg (Value.int .i64) (cmpM_gt a b hn hall h23).symm
      · skip
        refine Chain.tail0 hb ?_
        refine WL.nil ?_
        refine WE.nx ?_
        refine WE.then ?_
        refine WC.condF rfl ?_
        refine WC.skip ?_
        refine WE.inBlock ?_
        refine WE.then ?_
        refine WC.region ?_
        refine WL.y0' guard_none (Y0.move rfl) rfl ?_
        first | refine WL.y0' guard_none (Y0.addI rfl rfl (by omega)) rfl ?_ | refine WL.y0' guard_none (Y0.add rfl rfl) rfl ?_
        refine WL.y0' guard_none (Y0.assign rfl) rfl ?_
        refine WL.nil ?_
        refine WE.backH (x + 1) ?_ ?_ ?_ ?_
        · exact ⟨by omega, all_step hall hn (by omega)⟩
        · exact Fr.sub_cons rfl (Fr.sub_cons rfl (Fr.sub_cons rfl (Fr.sub_nil _)))
        · exact St.conseqL (Lo.sub_cons (rfl) (Lo.sub_cons (rfl) (Lo.sub_nil _)))
        · omega
  · skip
    refine WL.nil ?_
    refine WE.then ?_
    refine WC.condF rfl ?_
    refine WC.exit ?_
    refine WE.thenExit ?_
    refine WE.thenExit ?_
    refine WE.exitHere ?_
    refine WE.then ?_
    refine WC.seq ?_
    refine WC.region ?_
    refine WL.y0' guard_none (Y0.assign rfl) rfl ?_
    refine WL.nil ?_
    refine WE.then ?_
    refine WC.ret ?_
    refine WE.ret1 rfl rfl ?_
    exact congrArg (Value.int .i64) (cmpM_eq a b (fun i => hall i (by omega))).symm

theorem mCmp (a b : M) : Ctr Try.prog 19 #[.agg (vecA a), .agg (vecA b)] (fun G => True) (fun G r => r = .int .i64 (cmpM a b)) := by
  refine Ctr.enter (args := [_, _]) (N := 25) Try.func19 rfl rfl rfl (fun w0 G0 hL0 hpre => ?_)
  refine WC.seq ?_
  refine WC.region ?_
  refine WL.box 2 guard_none rfl rfl (fun b2 => ?_)
  refine WL.box 3 guard_none rfl rfl (fun b3 => ?_)
  refine WL.y0' guard_none (Y0.assign rfl) rfl ?_
  refine WL.nil ?_
  refine WE.then ?_
  refine WC.seq ?_
  refine WC.seq ?_
  refine WC.region ?_
  refine WL.y0' guard_none (Y0.loadLA 2 ag27 rfl rfl rfl) rfl ?_
  refine WL.y0' guard_none (Y0.loadLA 3 ag27 rfl rfl rfl) rfl ?_
  refine WL.caseY0 guard_none (Y0.eqlM Try.underlying27 Try.underlying3 sc3 sz3 eg27 rfl rfl) rfl (fun h8 => ?_) (fun h8 => ?_)
  · skip
    refine WL.nil ?_
    refine WE.then ?_
    refine WC.condT rfl ?_
    refine WC.seq ?_
    refine WC.region ?_
    refine WL.y0' guard_none (Y0.assign rfl) rfl ?_
    refine WL.nil ?_
    refine WE.then ?_
    refine WC.ret ?_
    refine WE.thenRet ?_
    refine WE.ret1 rfl rfl ?_
    exact congrArg (Value.int .i64) (cmpM_eq a b (fun i => by rw [h8])).symm
  · skip
    refine WL.nil ?_
    refine WE.then ?_
    refine WC.condF rfl ?_
    refine WC.skip ?_
    refine WE.then ?_
    refine WC.seq ?_
    refine WC.region ?_
    refine WL.y0' guard_none (Y0.assign rfl) rfl ?_
    refine WL.nil ?_
    refine WE.then ?_
    refine WC.seq ?_
    refine WC.block ?_
    refine WC.loopH (fun (x : Nat) => [(2, .pointer (some ⟨b2, 0, none⟩)), (3, .pointer (some ⟨b3, 0, none⟩)), (5, .int .i64 (x : Int))]) (fun (x : Nat) => x < 8 ∧ ∀ i : Fin 8, i.val < x → a i = b i) (fun (x : Nat) => St w0 G0 G0 [(2, b2, .cells (vecA a) 27 (0, 0)), (3, b3, .cells (vecA b) 27 (0, 0))]) (fun (x : Nat) => 8 - x) 0 ?_ ?_ ?_ ?_
    · exact Fr.sub_cons rfl (Fr.sub_cons rfl (Fr.sub_cons rfl (Fr.sub_nil _)))
    · exact ⟨by omega, fun i h => by omega⟩
    · exact St.conseqL (Lo.sub_cons (rfl) (Lo.sub_cons (rfl) (Lo.sub_nil _)))
    rintro x hx
    obtain ⟨hn, hall⟩ := hx
    refine WC.seq ?_
    refine WC.seq ?_
    refine WC.drawn [false, false, false, false, false, false, false] mix (by kernel_rfl) (fun hb => ?_)
    refine Chain.y0 guard_none (fun _ hle => Y0.move rfl) ?_
    first | refine Chain.y0 guard_none (fun _ hle => Y0.idxArr1 Try.underlying27 sz3 rfl rfl (by omega)) ?_ | refine Chain.y0 guard_none (fun _ hle => Y0.idxArr Try.underlying27 sz3 rfl rfl (by omega)) ?_
    refine Chain.y0 guard_none (fun _ hle => Y0.loadL 2 sc3 rfl rfl (vecA_get _ hn)) ?_
    refine Chain.y0 guard_none (fun _ hle => Y0.move rfl) ?_
    first | refine Chain.y0 guard_none (fun _ hle => Y0.idxArr1 Try.underlying27 sz3 rfl rfl (by omega)) ?_ | refine Chain.y0 guard_none (fun _ hle => Y0.idxArr Try.underlying27 sz3 rfl rfl (by omega)) ?_
    refine Chain.y0 guard_none (fun _ hle => Y0.loadL 3 sc3 rfl rfl (vecA_get _ hn)) ?_
    refine Chain.caseY0 guard_none (fun _ hle => Y0.eql rfl rfl) (fun h15 => ?_) (fun h15 => ?_)
    · skip
      refine Chain.tail0 hb ?_
      refine WL.nil ?_
      refine WE.nx ?_
      refine WE.then ?_
      refine WC.condT rfl ?_
      refine WC.skip ?_
      refine WE.then ?_
      refine WC.block ?_
      refine WC.region ?_
      refine WL.y0' guard_none (Y0.move rfl) rfl ?_
      first | refine WL.y0' guard_none (Y0.addI rfl rfl (by omega)) rfl ?_ | refine WL.y0' guard_none (Y0.add rfl rfl) rfl ?_
      refine WL.y0' guard_none (Y0.assign rfl) rfl ?_
      refine WL.nil ?_
      refine WE.inBlock ?_
      refine WE.backH (x + 1) ?_ ?_ ?_ ?_
      · exact ⟨ne_next h8 hn hall h15, all_step hall hn h15⟩
      · exact Fr.sub_cons rfl (Fr.sub_cons rfl (Fr.sub_cons rfl (Fr.sub_nil _)))
      · exact St.conseqL (Lo.sub_cons (rfl) (Lo.sub_cons (rfl) (Lo.sub_nil _)))
      · omega
    · skip
      refine Chain.tail0 hb ?_
      refine WL.nil ?_
      refine WE.nx ?_
      refine WE.then ?_
      refine WC.condF rfl ?_
      refine WC.exit ?_
      refine WE.thenExit ?_
      refine WE.thenExit ?_
      refine WE.exitHere ?_
      refine WE.then ?_
      refine WC.seq ?_
      refine WC.seq ?_
      refine WC.drawn [false, false, false, false, false, false, false] mix (by kernel_rfl) (fun hb => ?_)
      refine Chain.y0 guard_none (fun _ hle => Y0.move rfl) ?_
      first | refine Chain.y0 guard_none (fun _ hle => Y0.idxArr1 Try.underlying27 sz3 rfl rfl (by omega)) ?_ | refine Chain.y0 guard_none (fun _ hle => Y0.idxArr Try.underlying27 sz3 rfl rfl (by omega)) ?_
      refine Chain.y0 guard_none (fun _ hle => Y0.loadL 2 sc3 rfl rfl (vecA_get _ hn)) ?_
      refine Chain.y0 guard_none (fun _ hle => Y0.move rfl) ?_
      first | refine Chain.y0 guard_none (fun _ hle => Y0.idxArr1 Try.underlying27 sz3 rfl rfl (by omega)) ?_ | refine Chain.y0 guard_none (fun _ hle => Y0.idxArr Try.underlying27 sz3 rfl rfl (by omega)) ?_
      refine Chain.y0 guard_none (fun _ hle => Y0.loadL 3 sc3 rfl rfl (vecA_get _ hn)) ?_
      refine Chain.caseY0 guard_none (fun _ hle => Y0.lss rfl rfl) (fun h24 => ?_) (fun h24 => ?_)
      · skip
        refine Chain.tail0 hb ?_
        refine WL.nil ?_
        refine WE.nx ?_
        refine WE.then ?_
        refine WC.condT rfl ?_
        refine WC.seq ?_
        refine WC.region ?_
        refine WL.y0' guard_none (Y0.assign rfl) rfl ?_
        refine WL.nil ?_
        refine WE.then ?_
        refine WC.ret ?_
        refine WE.thenRet ?_
        refine WE.ret1 rfl rfl ?_
        exact congrArg (Value.int .i64) (cmpM_lt a b hn hall h24).symm
      · skip
        refine Chain.tail0 hb ?_
        refine WL.nil ?_
        refine WE.nx ?_
        refine WE.then ?_
        refine WC.condF rfl ?_
        refine WC.skip ?_
        refine WE.then ?_
        refine WC.seq ?_
        refine WC.region ?_
        refine WL.y0' guard_none (Y0.assign rfl) rfl ?_
        refine WL.nil ?_
        refine WE.then ?_
        refine WC.ret ?_
        refine WE.ret1 rfl rfl ?_
        exact congrArg (Value.int .i64) (cmpM_gt a b hn hall (by omega)).symm

theorem rBit (i : Nat) (hi : i < 8) : Ctr Try.prog 37 #[.int .i64 (i : Int)] (fun G => True) (fun G r => r = .int .u8 (p2 i)) := by
  refine Ctr.enter (args := [_]) (N := 14) Try.func37 rfl rfl rfl (fun w0 G0 hL0 hpre => ?_)
  refine WC.seq ?_
  refine WC.region ?_
  refine WL.y0' guard_none (Y0.assign rfl) rfl ?_
  refine WL.nil ?_
  refine WE.then ?_
  refine WC.seq ?_
  refine WC.region ?_
  refine WL.y0' guard_none (Y0.assign rfl) rfl ?_
  refine WL.nil ?_
  refine WE.then ?_
  refine WC.seq ?_
  refine WC.seq ?_
  refine WC.region ?_
  refine WL.y0' guard_none (Y0.assign rfl) rfl ?_
  refine WL.nil ?_
  refine WE.then ?_
  refine WC.block ?_
  refine WC.loopH (fun (x : Nat) => [(0, .int .i64 (i : Int)), (3, .int .i64 (p2 x)), (4, .int .i64 (x : Int))]) (fun (x : Nat) => x ≤ i) (fun (x : Nat) => St w0 G0 G0 []) (fun (x : Nat) => i - x) 0 ?_ ?_ ?_ ?_
  · exact Fr.sub_cons rfl (Fr.sub_cons rfl (Fr.sub_cons rfl (Fr.sub_nil _)))
  · omega
  · exact St.conseqL (Lo.sub_nil _)
  rintro x hx
  have hk := hx
  have hp := p2_le (k := x) (by omega)
  refine WC.seq ?_
  refine WC.seq ?_
  refine WC.region ?_
  refine WL.y0' guard_none (Y0.move rfl) rfl ?_
  refine WL.y0' guard_none (Y0.move rfl) rfl ?_
  refine WL.caseY0 guard_none (Y0.lss rfl rfl) rfl (fun h7 => ?_) (fun h7 => ?_)
  · skip
    refine WL.nil ?_
    refine WE.then ?_
    refine WC.condT rfl ?_
    refine WC.skip ?_
    refine WE.then ?_
    refine WC.seq ?_
    refine WC.block ?_
    refine WC.region ?_
    refine WL.y0' guard_none (Y0.move rfl) rfl ?_
    first | refine WL.y0' guard_none (Y0.mulI rfl rfl (by omega)) rfl ?_ | refine WL.y0' guard_none (Y0.mul rfl rfl) rfl ?_
    refine WL.y0' guard_none (Y0.assign rfl) rfl ?_
    refine WL.nil ?_
    refine WE.inBlock ?_
    refine WE.then ?_
    refine WC.region ?_
    refine WL.y0' guard_none (Y0.move rfl) rfl ?_
    first | refine WL.y0' guard_none (Y0.addI rfl rfl (by omega)) rfl ?_ | refine WL.y0' guard_none (Y0.add rfl rfl) rfl ?_
    refine WL.y0' guard_none (Y0.assign rfl) rfl ?_
    refine WL.nil ?_
    refine WE.backH (x + 1) ?_ ?_ ?_ ?_
    · omega
    · exact Fr.sub_cons rfl (Fr.sub_cons rfl (Fr.sub_cons rfl (Fr.sub_nil _)))
    · exact St.conseqL (Lo.sub_nil _)
    · omega
  · skip
    refine WL.nil ?_
    refine WE.then ?_
    refine WC.condF rfl ?_
    refine WC.exit ?_
    refine WE.thenExit ?_
    refine WE.thenExit ?_
    refine WE.exitHere ?_
    refine WE.then ?_
    refine WC.seq ?_
    refine WC.region ?_
    refine WL.y0' guard_none (Y0.move rfl) rfl ?_
    refine WL.y0' guard_none (Y0.conv Try.underlying3 Try.underlying5 rfl) rfl ?_
    refine WL.y0' guard_none (Y0.assign rfl) rfl ?_
    refine WL.nil ?_
    refine WE.then ?_
    refine WC.ret ?_
    refine WE.ret1 rfl rfl ?_
    exact congrArg (Value.int .u8) ((congrArg (fun k => IntKind.u8.wrap (p2 k)) (by omega : x = i)).trans (p2_wrap hi))

theorem mSupport (a : M) : Ctr Try.prog 27 #[.agg (vecA a)] (fun G => True) (fun G r => r = .int .u8 (suppM a)) := by
  refine Ctr.enter (args := [_]) (N := 19) Try.func27 rfl rfl rfl (fun w0 G0 hL0 hpre => ?_)
  refine WC.seq ?_
  refine WC.region ?_
  refine WL.box 1 guard_none rfl rfl (fun b1 => ?_)
  refine WL.y0' guard_none (Y0.assign rfl) rfl ?_
  refine WL.nil ?_
  refine WE.then ?_
  refine WC.seq ?_
  refine WC.region ?_
  refine WL.y0' guard_none (Y0.assign rfl) rfl ?_
  refine WL.nil ?_
  refine WE.then ?_
  refine WC.seq ?_
  refine WC.seq ?_
  refine WC.region ?_
  refine WL.y0' guard_none (Y0.loadLA 1 ag27 rfl rfl rfl) rfl ?_
  refine WL.y0' guard_none (Y0.move rfl) rfl ?_
  refine WL.nil ?_
  refine WE.then ?_
  refine WC.block ?_
  refine WC.loopH (fun (x : Nat) => [(1, .pointer (some ⟨b1, 0, none⟩)), (7, .int .i64 (x : Int)), (3, .int .u8 (suppTo a x)), (6, .agg (vecA a))]) (fun (x : Nat) => x ≤ 8) (fun (x : Nat) => St w0 G0 G0 [(1, b1, .cells (vecA a) 27 (0, 0))]) (fun (x : Nat) => 8 - x) 0 ?_ ?_ ?_ ?_
  · exact Fr.sub_cons rfl (Fr.sub_cons rfl (Fr.sub_cons rfl (Fr.sub_cons rfl (Fr.sub_nil _))))
  · omega
  · exact St.conseqL (Lo.sub_cons (rfl) (Lo.sub_nil _))
  rintro x hx
  have hk := hx
  have hs := suppTo_lt a x
  refine WC.seq ?_
  refine WC.region ?_
  refine WL.caseY0 guard_none (Y0.lss rfl rfl) rfl (fun h8 => ?_) (fun h8 => ?_)
  · skip
    have hn : x < 8 := by omega
    refine WL.nil ?_
    refine WE.then ?_
    refine WC.seq ?_
    refine WC.condT rfl ?_
    refine WC.skip ?_
    refine WE.then ?_
    refine WC.seq ?_
    refine WC.block ?_
    refine WC.seq ?_
    refine WC.region ?_
    refine WL.y0' guard_none (Y0.move rfl) rfl ?_
    refine WL.y0' guard_none (Y0.index Try.underlying27 sc3 sz3 rfl rfl (by omega) (vecA_get _ hn)) rfl ?_
    refine WL.y0' guard_none (Y0.assign rfl) rfl ?_
    refine WL.y0' guard_none (Y0.assign rfl) rfl ?_
    refine WL.nil ?_
    refine WE.then ?_
    refine WC.seq ?_
    refine WC.region ?_
    refine WL.y0' guard_none (Y0.move rfl) rfl ?_
    refine WL.caseY0 guard_none (Y0.gtr rfl rfl) rfl (fun h12 => ?_) (fun h12 => ?_)
    · skip
      refine WL.nil ?_
      refine WE.then ?_
      refine WC.condT rfl ?_
      refine WC.region ?_
      refine WL.y0' guard_none (Y0.move rfl) rfl ?_
      refine WL.y0' guard_none (Y0.move rfl) rfl ?_
      refine WL.y0' guard_none (Y0.eq (Y0.shl rfl rfl (by omega)) (congrArg (Value.int .u8) (p2_shift hn))) rfl ?_
      refine WL.y0' guard_none (Y0.eq (Y0.or rfl rfl) (congrArg (Value.int .u8) (or_p2 hn hs.1 hs.2))) rfl ?_
      refine WL.y0' guard_none (Y0.assign rfl) rfl ?_
      refine WL.nil ?_
      refine WE.inBlock ?_
      refine WE.then ?_
      refine WC.region ?_
      first | refine WL.y0' guard_none (Y0.addI rfl rfl (by omega)) rfl ?_ | refine WL.y0' guard_none (Y0.add rfl rfl) rfl ?_
      refine WL.y0' guard_none (Y0.move rfl) rfl ?_
      refine WL.nil ?_
      refine WE.backH (x + 1) ?_ ?_ ?_ ?_
      · omega
      · exact Fr.sub_cons rfl (Fr.sub_cons rfl (Fr.sub_cons (congrArg (fun z => some (Value.int .u8 z)) (suppTo_yes a hn h12)) (Fr.sub_cons rfl (Fr.sub_nil _))))
      · exact St.conseqL (Lo.sub_cons (rfl) (Lo.sub_nil _))
      · omega
    · skip
      refine WL.nil ?_
      refine WE.then ?_
      refine WC.condF rfl ?_
      refine WC.skip ?_
      refine WE.inBlock ?_
      refine WE.then ?_
      refine WC.region ?_
      first | refine WL.y0' guard_none (Y0.addI rfl rfl (by omega)) rfl ?_ | refine WL.y0' guard_none (Y0.add rfl rfl) rfl ?_
      refine WL.y0' guard_none (Y0.move rfl) rfl ?_
      refine WL.nil ?_
      refine WE.backH (x + 1) ?_ ?_ ?_ ?_
      · omega
      · exact Fr.sub_cons rfl (Fr.sub_cons rfl (Fr.sub_cons (congrArg (fun z => some (Value.int .u8 z)) (suppTo_no a hn h12)) (Fr.sub_cons rfl (Fr.sub_nil _))))
      · exact St.conseqL (Lo.sub_cons (rfl) (Lo.sub_nil _))
      · omega
  · skip
    refine WL.nil ?_
    refine WE.then ?_
    refine WC.seq ?_
    refine WC.condF rfl ?_
    refine WC.exit ?_
    refine WE.thenExit ?_
    refine WE.thenExit ?_
    refine WE.exitHere ?_
    refine WE.then ?_
    refine WC.seq ?_
    refine WC.region ?_
    refine WL.y0' guard_none (Y0.move rfl) rfl ?_
    refine WL.y0' guard_none (Y0.assign rfl) rfl ?_
    refine WL.nil ?_
    refine WE.then ?_
    refine WC.ret ?_
    refine WE.ret1 rfl rfl ?_
    exact congrArg (fun k => Value.int .u8 (suppTo a k)) (by omega : x = 8)

theorem rSupport (a : M) : Ctr Try.prog 28 #[.agg (vecA a)] (fun G => True) (fun G r => r = .int .u8 (suppM a)) := by
  refine Ctr.enter (args := [_]) (N := 18) Try.func28 rfl rfl rfl (fun w0 G0 hL0 hpre => ?_)
  refine WC.seq ?_
  refine WC.region ?_
  refine WL.box 1 guard_none rfl rfl (fun b1 => ?_)
  refine WL.y0' guard_none (Y0.assign rfl) rfl ?_
  refine WL.nil ?_
  refine WE.then ?_
  refine WC.seq ?_
  refine WC.region ?_
  refine WL.y0' guard_none (Y0.assign rfl) rfl ?_
  refine WL.nil ?_
  refine WE.then ?_
  refine WC.seq ?_
  refine WC.seq ?_
  refine WC.region ?_
  refine WL.y0' guard_none (Y0.assign rfl) rfl ?_
  refine WL.nil ?_
  refine WE.then ?_
  refine WC.block ?_
  refine WC.loopH (fun (x : Nat) => [(1, .pointer (some ⟨b1, 0, none⟩)), (4, .int .i64 (x : Int)), (3, .int .u8 (suppTo a x))]) (fun (x : Nat) => x ≤ 8) (fun (x : Nat) => St w0 G0 G0 [(1, b1, .cells (vecA a) 27 (0, 0))]) (fun (x : Nat) => 8 - x) 0 ?_ ?_ ?_ ?_
  · exact Fr.sub_cons rfl (Fr.sub_cons rfl (Fr.sub_cons rfl (Fr.sub_nil _)))
  · omega
  · exact St.conseqL (Lo.sub_cons (rfl) (Lo.sub_nil _))
  rintro x hx
  have hk := hx
  have hs := suppTo_lt a x
  refine WC.seq ?_
  refine WC.seq ?_
  refine WC.region ?_
  refine WL.y0' guard_none (Y0.move rfl) rfl ?_
  refine WL.caseY0 guard_none (Y0.lss rfl rfl) rfl (fun h6 => ?_) (fun h6 => ?_)
  · skip
    have hn : x < 8 := by omega
    refine WL.nil ?_
    refine WE.then ?_
    refine WC.condT rfl ?_
    refine WC.skip ?_
    refine WE.then ?_
    refine WC.seq ?_
    refine WC.block ?_
    refine WC.seq ?_
    refine WC.region ?_
    refine WL.y0' guard_none (Y0.move rfl) rfl ?_
    first | refine WL.y0' guard_none (Y0.idxArr1 Try.underlying27 sz3 rfl rfl (by omega)) rfl ?_ | refine WL.y0' guard_none (Y0.idxArr Try.underlying27 sz3 rfl rfl (by omega)) rfl ?_
    refine WL.y0' guard_none (Y0.loadL 1 sc3 rfl rfl (vecA_get _ hn)) rfl ?_
    refine WL.caseY0 guard_none (Y0.gtr rfl rfl) rfl (fun h12 => ?_) (fun h12 => ?_)
    · skip
      refine WL.nil ?_
      refine WE.then ?_
      refine WC.condT rfl ?_
      refine WC.region ?_
      refine WL.y0' guard_none (Y0.move rfl) rfl ?_
      refine WL.y0' guard_none (Y0.move rfl) rfl ?_
      refine WL.call0 guard_none rfl (YC.of E37 rfl) (rBit _ hn) rfl (trivial) ?_
      refine WL.y0' guard_none (Y0.eq (Y0.add rfl rfl) (congrArg (Value.int .u8) (add_p2 hn hs.1 hs.2))) rfl ?_
      refine WL.y0' guard_none (Y0.assign rfl) rfl ?_
      refine WL.nil ?_
      refine WE.inBlock ?_
      refine WE.then ?_
      refine WC.region ?_
      refine WL.y0' guard_none (Y0.move rfl) rfl ?_
      first | refine WL.y0' guard_none (Y0.addI rfl rfl (by omega)) rfl ?_ | refine WL.y0' guard_none (Y0.add rfl rfl) rfl ?_
      refine WL.y0' guard_none (Y0.assign rfl) rfl ?_
      refine WL.nil ?_
      refine WE.backH (x + 1) ?_ ?_ ?_ ?_
      · omega
      · exact Fr.sub_cons rfl (Fr.sub_cons rfl (Fr.sub_cons (congrArg (fun z => some (Value.int .u8 z)) (suppTo_yes a hn h12)) (Fr.sub_nil _)))
      · exact St.conseqL (Lo.sub_cons (rfl) (Lo.sub_nil _))
      · omega
    · skip
      refine WL.nil ?_
      refine WE.then ?_
      refine WC.condF rfl ?_
      refine WC.skip ?_
      refine WE.inBlock ?_
      refine WE.then ?_
      refine WC.region ?_
      refine WL.y0' guard_none (Y0.move rfl) rfl ?_
      first | refine WL.y0' guard_none (Y0.addI rfl rfl (by omega)) rfl ?_ | refine WL.y0' guard_none (Y0.add rfl rfl) rfl ?_
      refine WL.y0' guard_none (Y0.assign rfl) rfl ?_
      refine WL.nil ?_
      refine WE.backH (x + 1) ?_ ?_ ?_ ?_
      · omega
      · exact Fr.sub_cons rfl (Fr.sub_cons rfl (Fr.sub_cons (congrArg (fun z => some (Value.int .u8 z)) (suppTo_no a hn h12)) (Fr.sub_nil _)))
      · exact St.conseqL (Lo.sub_cons (rfl) (Lo.sub_nil _))
      · omega
  · skip
    refine WL.nil ?_
    refine WE.then ?_
    refine WC.condF rfl ?_
    refine WC.exit ?_
    refine WE.thenExit ?_
    refine WE.thenExit ?_
    refine WE.exitHere ?_
    refine WE.then ?_
    refine WC.seq ?_
    refine WC.region ?_
    refine WL.y0' guard_none (Y0.move rfl) rfl ?_
    refine WL.y0' guard_none (Y0.assign rfl) rfl ?_
    refine WL.nil ?_
    refine WE.then ?_
    refine WC.ret ?_
    refine WE.ret1 rfl rfl ?_
    exact congrArg (fun k => Value.int .u8 (suppTo a k)) (by omega : x = 8)

theorem lmono (a b c : Int) : Ctr Try.prog 36 #[.int .i64 a, .int .i64 b, .int .i64 c] (fun G => True) (fun G r => r = .agg (vecA (mono3 a b c))) := by
  refine Ctr.enter (args := [_, _, _]) (N := 11) Try.func36 rfl rfl rfl (fun w0 G0 hL0 hpre => ?_)
  refine WC.seq ?_
  refine WC.region ?_
  refine WL.alloc 6 guard_none z27 rfl (fun b6 => ?_)
  refine WL.nil ?_
  refine WE.then ?_
  refine WC.seq ?_
  refine WC.region ?_
  refine WL.y0' guard_none (Y0.move rfl) rfl ?_
  refine WL.y0' guard_none (Y0.move rfl) rfl ?_
  refine WL.y0' guard_none (Y0.move rfl) rfl ?_
  refine WL.y0' guard_none (Y0.build (vs := #[(0, .int .i64 a), (1, .int .i64 b), (2, .int .i64 c)]) (v := .agg (vecA (mono3 a b c))) rfl rfl (fun _ => by kernel_rfl)) rfl ?_
  refine WL.storeLA 6 guard_none sz27 rfl rfl rfl rfl rfl rfl ?_
  refine WL.nil ?_
  refine WE.then ?_
  refine WC.ret ?_
  refine WE.ret1 rfl (RV.cellA (i := 6) ag27 rfl rfl rfl) ?_
  rfl

end Go.Proofs.Ytdpmpefjplfgbaa
