/- The laws of monomials, as contracts: each returns true. The conditions stand in each statement. -/
import Derived.Test.YtdpmpefjplfgbaaMe
import Derived.Test.YtdpmpefjplfgbaaElo
namespace Go.Proofs.Ytdpmpefjplfgbaa
open Go Go.EL Go.RowKit

theorem mMulT (a b : M) (ha : Sm a) (hb : Sm b) : Ctr Try.prog 13 #[.agg (vecA a), .agg (vecA b)] (fun _ => True) (fun _ r => r = .tuple #[.agg (vecA (mulM a b)), .int .i64 (mulE a b)]) := (mMul a b ha hb).eqv (mul_val a b)
theorem rMulT (a b : M) (ha : Sm a) (hb : Sm b) : Ctr Try.prog 14 #[.agg (vecA a), .agg (vecA b)] (fun _ => True) (fun _ r => r = .tuple #[.agg (vecA (mulM a b)), .int .i64 (mulE a b)]) := (rMul a b ha hb).eqv (mul_val a b)
theorem mQuoT (a b : M) (ha : Sm a) (hb : Sm b) : Ctr Try.prog 15 #[.agg (vecA a), .agg (vecA b)] (fun _ => True) (fun _ r => r = .tuple #[.agg (vecA (quoM a b)), .bool (decide (dvdM b a))]) := (mQuo a b ha hb).eqv (quo_val a b)
theorem rQuoT (a b : M) (ha : Sm a) (hb : Sm b) : Ctr Try.prog 16 #[.agg (vecA a), .agg (vecA b)] (fun _ => True) (fun _ r => r = .tuple #[.agg (vecA (quoM a b)), .bool (decide (dvdM b a))]) := (rQuo a b ha hb).eqv (quo_val a b)
theorem cMonomialMatchesReference (x y : M) (hx : Ok x) (hy : Ok y) : Ctr Try.prog 3 #[.agg (vecU x), .agg (vecU y)] (fun G => True) (fun G r => r = .bool true) := by
  refine Ctr.enter (args := [_, _]) (N := 116) Try.func3 rfl rfl rfl (fun w0 G0 hL0 hpre => ?_)
  have sx : Sm x := hx.sm
  have sy : Sm y := hy.sm
  refine WC.seq ?_
  refine WC.region ?_
  refine WL.box 2 guard_none rfl rfl (fun b2 => ?_)
  refine WL.box 3 guard_none rfl rfl (fun b3 => ?_)
  refine WL.y0' guard_none (Y0.assign rfl) rfl ?_
  refine WL.nil ?_
  refine WE.then ?_
  refine WC.seq ?_
  refine WC.region ?_
  refine WL.call0 guard_none rfl (YC.of E11 rfl) (lsanity) rfl (trivial) ?_
  refine WL.y0' guard_none (Y0.assign rfl) rfl ?_
  refine WL.nil ?_
  refine WE.then ?_
  refine WC.seq ?_
  refine WC.seq ?_
  refine WC.region ?_
  refine WL.y0' guard_none (Y0.move rfl) rfl ?_
  refine WL.y0' guard_none (Y0.not rfl) rfl ?_
  refine WL.nil ?_
  refine WE.then ?_
  refine WC.condF rfl ?_
  refine WC.skip ?_
  refine WE.then ?_
  refine WC.seq ?_
  refine WC.region ?_
  refine WL.y0' guard_none (Y0.loadLA 2 ag24 rfl rfl rfl) rfl ?_
  refine WL.call0 guard_none rfl (YC.of E12 rfl) (rMade _ (by assumption)) rfl (trivial) ?_
  refine WL.alloc 6 guard_none z27 rfl (fun b6 => ?_)
  refine WL.storeLA 6 guard_none sz27 rfl rfl rfl rfl rfl rfl ?_
  refine WL.nil ?_
  refine WE.then ?_
  refine WC.seq ?_
  refine WC.region ?_
  refine WL.y0' guard_none (Y0.loadLA 3 ag24 rfl rfl rfl) rfl ?_
  refine WL.call0 guard_none rfl (YC.of E12 rfl) (rMade _ (by assumption)) rfl (trivial) ?_
  refine WL.alloc 7 guard_none z27 rfl (fun b7 => ?_)
  refine WL.storeLA 7 guard_none sz27 rfl rfl rfl rfl rfl rfl ?_
  refine WL.nil ?_
  refine WE.then ?_
  refine WC.seq ?_
  refine WC.region ?_
  refine WL.y0' guard_none (Y0.loadLA 6 ag27 rfl rfl rfl) rfl ?_
  refine WL.y0' guard_none (Y0.loadLA 7 ag27 rfl rfl rfl) rfl ?_
  refine WL.call0 guard_none rfl (YC.of E13 rfl) (mMulT _ _ (by assumption) (by assumption)) rfl (trivial) ?_
  refine WL.y0' guard_none (Y0.move rfl) rfl ?_
  refine WL.y0' guard_none (Y0.extract rfl rfl) rfl ?_
  refine WL.y0' guard_none (Y0.extract rfl rfl) rfl ?_
  refine WL.alloc 8 guard_none z27 rfl (fun b8 => ?_)
  refine WL.storeLA 8 guard_none sz27 rfl rfl rfl rfl rfl rfl ?_
  refine WL.y0' guard_none (Y0.assign rfl) rfl ?_
  refine WL.nil ?_
  refine WE.then ?_
  refine WC.seq ?_
  refine WC.region ?_
  refine WL.y0' guard_none (Y0.loadLA 6 ag27 rfl rfl rfl) rfl ?_
  refine WL.y0' guard_none (Y0.loadLA 7 ag27 rfl rfl rfl) rfl ?_
  refine WL.call0 guard_none rfl (YC.of E14 rfl) (rMulT _ _ (by assumption) (by assumption)) rfl (trivial) ?_
  refine WL.y0' guard_none (Y0.move rfl) rfl ?_
  refine WL.y0' guard_none (Y0.extract rfl rfl) rfl ?_
  refine WL.y0' guard_none (Y0.extract rfl rfl) rfl ?_
  refine WL.alloc 10 guard_none z27 rfl (fun b10 => ?_)
  refine WL.storeLA 10 guard_none sz27 rfl rfl rfl rfl rfl rfl ?_
  refine WL.y0' guard_none (Y0.assign rfl) rfl ?_
  refine WL.nil ?_
  refine WE.then ?_
  refine WC.seq ?_
  refine WC.region ?_
  refine WL.y0' guard_none (Y0.loadLA 6 ag27 rfl rfl rfl) rfl ?_
  refine WL.y0' guard_none (Y0.loadLA 7 ag27 rfl rfl rfl) rfl ?_
  refine WL.call0 guard_none rfl (YC.of E15 rfl) (mQuoT _ _ (by assumption) (by assumption)) rfl (trivial) ?_
  refine WL.y0' guard_none (Y0.move rfl) rfl ?_
  refine WL.y0' guard_none (Y0.extract rfl rfl) rfl ?_
  refine WL.y0' guard_none (Y0.extract rfl rfl) rfl ?_
  refine WL.alloc 12 guard_none z27 rfl (fun b12 => ?_)
  refine WL.storeLA 12 guard_none sz27 rfl rfl rfl rfl rfl rfl ?_
  refine WL.y0' guard_none (Y0.assign rfl) rfl ?_
  refine WL.nil ?_
  refine WE.then ?_
  refine WC.seq ?_
  refine WC.region ?_
  refine WL.y0' guard_none (Y0.loadLA 6 ag27 rfl rfl rfl) rfl ?_
  refine WL.y0' guard_none (Y0.loadLA 7 ag27 rfl rfl rfl) rfl ?_
  refine WL.call0 guard_none rfl (YC.of E16 rfl) (rQuoT _ _ (by assumption) (by assumption)) rfl (trivial) ?_
  refine WL.y0' guard_none (Y0.move rfl) rfl ?_
  refine WL.y0' guard_none (Y0.extract rfl rfl) rfl ?_
  refine WL.y0' guard_none (Y0.extract rfl rfl) rfl ?_
  refine WL.alloc 14 guard_none z27 rfl (fun b14 => ?_)
  refine WL.storeLA 14 guard_none sz27 rfl rfl rfl rfl rfl rfl ?_
  refine WL.y0' guard_none (Y0.assign rfl) rfl ?_
  refine WL.nil ?_
  refine WE.then ?_
  refine WC.seq ?_
  refine WC.seq ?_
  refine WC.drawn [false, false, false, false, false, false, false, false, false, false, false, false, false, false, false, false, false, false, false, false, false, false, false, false, false, false, false, false, false, false, false, false, false, false, false, false] mix (by kernel_rfl) (fun hb => ?_)
  refine Chain.y0 guard_none (fun _ hle => Y0.loadLA 8 ag27 rfl rfl rfl) ?_
  refine Chain.y0 guard_none (fun _ hle => Y0.loadLA 10 ag27 rfl rfl rfl) ?_
  refine Chain.y0 guard_none (fun _ hle => Y0.eq (Y0.neqM Try.underlying27 Try.underlying3 sc3 sz3 eg27 rfl rfl) (congrArg Value.bool (decide_eq_false (fun h => h rfl)))) ?_
  refine Chain.y0 guard_none (fun _ hle => Y0.move rfl) ?_
  refine Chain.y0 (guard_yes rfl rfl) (fun _ hle => Y0.move rfl) ?_
  refine Chain.y0 (guard_yes rfl rfl) (fun _ hle => Y0.move rfl) ?_
  refine Chain.y0 (guard_yes rfl rfl) (fun _ hle => Y0.eq (Y0.neq rfl rfl) (congrArg Value.bool (decide_eq_false (fun h => h rfl)))) ?_
  refine Chain.y0 guard_none (fun _ hle => Y0.pickF rfl rfl) ?_
  refine Chain.y0 guard_none (fun _ hle => Y0.move rfl) ?_
  refine Chain.y0 (guard_yes rfl rfl) (fun _ hle => Y0.loadLA 12 ag27 rfl rfl rfl) ?_
  refine Chain.y0 (guard_yes rfl rfl) (fun _ hle => Y0.loadLA 14 ag27 rfl rfl rfl) ?_
  refine Chain.y0 (guard_yes rfl rfl) (fun _ hle => Y0.eq (Y0.neqM Try.underlying27 Try.underlying3 sc3 sz3 eg27 rfl rfl) (congrArg Value.bool (decide_eq_false (fun h => h rfl)))) ?_
  refine Chain.y0 guard_none (fun _ hle => Y0.pickF rfl rfl) ?_
  refine Chain.y0 guard_none (fun _ hle => Y0.move rfl) ?_
  refine Chain.y0 (guard_yes rfl rfl) (fun _ hle => Y0.move rfl) ?_
  refine Chain.y0 (guard_yes rfl rfl) (fun _ hle => Y0.move rfl) ?_
  refine Chain.y0 (guard_yes rfl rfl) (fun _ hle => Y0.eq (Y0.neqB Try.underlying4 rfl rfl) (congrArg Value.bool (decide_eq_false (fun h => h rfl)))) ?_
  refine Chain.y0 guard_none (fun _ hle => Y0.pickF rfl rfl) ?_
  refine Chain.y0 guard_none (fun _ hle => Y0.move rfl) ?_
  refine Chain.y0 (guard_yes rfl rfl) (fun _ hle => Y0.loadLA 6 ag27 rfl rfl rfl) ?_
  refine Chain.y0 (guard_yes rfl rfl) (fun _ hle => Y0.loadLA 7 ag27 rfl rfl rfl) ?_
  refine Chain.call0 (guard_yes rfl rfl) (fun _ => YC.of E17 rfl) (mDivides _ _) rfl (fun G' hle => trivial) ?_
  refine Chain.y0 (guard_yes rfl rfl) (fun _ hle => Y0.loadLA 6 ag27 rfl rfl rfl) ?_
  refine Chain.y0 (guard_yes rfl rfl) (fun _ hle => Y0.loadLA 7 ag27 rfl rfl rfl) ?_
  refine Chain.call0 (guard_yes rfl rfl) (fun _ => YC.of E18 rfl) (rDivides _ _) rfl (fun G' hle => trivial) ?_
  refine Chain.y0 (guard_yes rfl rfl) (fun _ hle => Y0.eq (Y0.neqB Try.underlying4 rfl rfl) (congrArg Value.bool (decide_eq_false (fun h => h rfl)))) ?_
  refine Chain.y0 guard_none (fun _ hle => Y0.pickF rfl rfl) ?_
  refine Chain.y0 guard_none (fun _ hle => Y0.move rfl) ?_
  refine Chain.y0 (guard_yes rfl rfl) (fun _ hle => Y0.loadLA 6 ag27 rfl rfl rfl) ?_
  refine Chain.y0 (guard_yes rfl rfl) (fun _ hle => Y0.loadLA 7 ag27 rfl rfl rfl) ?_
  refine Chain.call0 (guard_yes rfl rfl) (fun _ => YC.of E19 rfl) (mCmp _ _) rfl (fun G' hle => trivial) ?_
  refine Chain.y0 (guard_yes rfl rfl) (fun _ hle => Y0.loadLA 6 ag27 rfl rfl rfl) ?_
  refine Chain.y0 (guard_yes rfl rfl) (fun _ hle => Y0.loadLA 7 ag27 rfl rfl rfl) ?_
  refine Chain.call0 (guard_yes rfl rfl) (fun _ => YC.of E20 rfl) (rCmp _ _) rfl (fun G' hle => trivial) ?_
  refine Chain.y0 (guard_yes rfl rfl) (fun _ hle => Y0.eq (Y0.neq rfl rfl) (congrArg Value.bool (decide_eq_false (fun h => h rfl)))) ?_
  refine Chain.y0 guard_none (fun _ hle => Y0.pickF rfl rfl) ?_
  refine Chain.tail0 hb ?_
  refine WL.nil ?_
  refine WE.nx ?_
  refine WE.then ?_
  refine WC.condF rfl ?_
  refine WC.skip ?_
  refine WE.then ?_
  refine WC.seq ?_
  refine WC.drawn [false, false, false, false, false, false, false, false, false, false, false, false, false, false, false, false, false, false, false, false, false, false, false, false, false, false, false, false, false, false, false, false, false, false] mix (by kernel_rfl) (fun hb => ?_)
  refine Chain.y0 guard_none (fun _ hle => Y0.move rfl) ?_
  refine Chain.y0 guard_none (fun _ hle => Y0.move rfl) ?_
  refine Chain.y0 (guard_yes rfl rfl) (fun _ hle => Y0.loadLA 6 ag27 rfl rfl rfl) ?_
  refine Chain.y0 (guard_yes rfl rfl) (fun _ hle => Y0.loadLA 7 ag27 rfl rfl rfl) ?_
  refine Chain.call0 (guard_yes rfl rfl) (fun _ => YC.of E21 rfl) (mLcm _ _) rfl (fun G' hle => trivial) ?_
  refine Chain.y0 (guard_yes rfl rfl) (fun _ hle => Y0.loadLA 6 ag27 rfl rfl rfl) ?_
  refine Chain.y0 (guard_yes rfl rfl) (fun _ hle => Y0.loadLA 7 ag27 rfl rfl rfl) ?_
  refine Chain.call0 (guard_yes rfl rfl) (fun _ => YC.of E22 rfl) (rLcm _ _) rfl (fun G' hle => trivial) ?_
  refine Chain.y0 (guard_yes rfl rfl) (fun _ hle => Y0.eq (Y0.eqlM Try.underlying27 Try.underlying3 sc3 sz3 eg27 rfl rfl) (congrArg Value.bool (decide_eq_true (rfl)))) ?_
  refine Chain.y0 guard_none (fun _ hle => Y0.pickT rfl rfl) ?_
  refine Chain.y0 guard_none (fun _ hle => Y0.move rfl) ?_
  refine Chain.y0 (guard_yes rfl rfl) (fun _ hle => Y0.loadLA 6 ag27 rfl rfl rfl) ?_
  refine Chain.y0 (guard_yes rfl rfl) (fun _ hle => Y0.loadLA 7 ag27 rfl rfl rfl) ?_
  refine Chain.call0 (guard_yes rfl rfl) (fun _ => YC.of E23 rfl) (mGcd _ _) rfl (fun G' hle => trivial) ?_
  refine Chain.y0 (guard_yes rfl rfl) (fun _ hle => Y0.loadLA 6 ag27 rfl rfl rfl) ?_
  refine Chain.y0 (guard_yes rfl rfl) (fun _ hle => Y0.loadLA 7 ag27 rfl rfl rfl) ?_
  refine Chain.call0 (guard_yes rfl rfl) (fun _ => YC.of E24 rfl) (rGcd _ _) rfl (fun G' hle => trivial) ?_
  refine Chain.y0 (guard_yes rfl rfl) (fun _ hle => Y0.eq (Y0.eqlM Try.underlying27 Try.underlying3 sc3 sz3 eg27 rfl rfl) (congrArg Value.bool (decide_eq_true (rfl)))) ?_
  refine Chain.y0 guard_none (fun _ hle => Y0.pickT rfl rfl) ?_
  refine Chain.y0 guard_none (fun _ hle => Y0.move rfl) ?_
  refine Chain.y0 (guard_yes rfl rfl) (fun _ hle => Y0.loadLA 6 ag27 rfl rfl rfl) ?_
  refine Chain.call0 (guard_yes rfl rfl) (fun _ => YC.of E25 rfl) (mDegree _ (by assumption)) rfl (fun G' hle => trivial) ?_
  refine Chain.y0 (guard_yes rfl rfl) (fun _ hle => Y0.loadLA 6 ag27 rfl rfl rfl) ?_
  refine Chain.call0 (guard_yes rfl rfl) (fun _ => YC.of E26 rfl) (rDegree _ (by assumption)) rfl (fun G' hle => trivial) ?_
  refine Chain.y0 (guard_yes rfl rfl) (fun _ hle => Y0.eq (Y0.eql rfl rfl) (congrArg Value.bool (decide_eq_true (rfl)))) ?_
  refine Chain.y0 guard_none (fun _ hle => Y0.pickT rfl rfl) ?_
  refine Chain.y0 guard_none (fun _ hle => Y0.move rfl) ?_
  refine Chain.y0 (guard_yes rfl rfl) (fun _ hle => Y0.loadLA 6 ag27 rfl rfl rfl) ?_
  refine Chain.call0 (guard_yes rfl rfl) (fun _ => YC.of E27 rfl) (mSupport _) rfl (fun G' hle => trivial) ?_
  refine Chain.y0 (guard_yes rfl rfl) (fun _ hle => Y0.loadLA 6 ag27 rfl rfl rfl) ?_
  refine Chain.call0 (guard_yes rfl rfl) (fun _ => YC.of E28 rfl) (rSupport _) rfl (fun G' hle => trivial) ?_
  refine Chain.y0 (guard_yes rfl rfl) (fun _ hle => Y0.eq (Y0.eql rfl rfl) (congrArg Value.bool (decide_eq_true (rfl)))) ?_
  refine Chain.y0 guard_none (fun _ hle => Y0.pickT rfl rfl) ?_
  refine Chain.y0 guard_none (fun _ hle => Y0.assign rfl) ?_
  refine Chain.tail0 hb ?_
  refine WL.nil ?_
  refine WE.nx ?_
  refine WE.then ?_
  refine WC.ret ?_
  refine WE.ret1 rfl rfl ?_
  rfl

theorem cMonomialLattice (x y z : M) (hx : Ok x) (hy : Ok y) (hz : Ok z) : Ctr Try.prog 7 #[.agg (vecU x), .agg (vecU y), .agg (vecU z)] (fun G => True) (fun G r => r = .bool true) := by
  refine Ctr.enter (args := [_, _, _]) (N := 131) Try.func7 rfl rfl rfl (fun w0 G0 hL0 hpre => ?_)
  have sx : Sm x := hx.sm
  have sy : Sm y := hy.sm
  have sz : Sm z := hz.sm
  have hmx := ok_max hx hy
  have hmn := ok_min hx hy
  have smx := hmx.sm
  have smn := hmn.sm
  refine WC.seq ?_
  refine WC.region ?_
  refine WL.box 3 guard_none rfl rfl (fun b3 => ?_)
  refine WL.box 4 guard_none rfl rfl (fun b4 => ?_)
  refine WL.box 5 guard_none rfl rfl (fun b5 => ?_)
  refine WL.y0' guard_none (Y0.assign rfl) rfl ?_
  refine WL.nil ?_
  refine WE.then ?_
  refine WC.seq ?_
  refine WC.region ?_
  refine WL.call0 guard_none rfl (YC.of E11 rfl) (lsanity) rfl (trivial) ?_
  refine WL.y0' guard_none (Y0.assign rfl) rfl ?_
  refine WL.nil ?_
  refine WE.then ?_
  refine WC.seq ?_
  refine WC.seq ?_
  refine WC.region ?_
  refine WL.y0' guard_none (Y0.move rfl) rfl ?_
  refine WL.y0' guard_none (Y0.not rfl) rfl ?_
  refine WL.nil ?_
  refine WE.then ?_
  refine WC.condF rfl ?_
  refine WC.skip ?_
  refine WE.then ?_
  refine WC.seq ?_
  refine WC.region ?_
  refine WL.y0' guard_none (Y0.loadLA 3 ag24 rfl rfl rfl) rfl ?_
  refine WL.call0 guard_none rfl (YC.of E12 rfl) (rMade _ (by assumption)) rfl (trivial) ?_
  refine WL.alloc 8 guard_none z27 rfl (fun b8 => ?_)
  refine WL.storeLA 8 guard_none sz27 rfl rfl rfl rfl rfl rfl ?_
  refine WL.nil ?_
  refine WE.then ?_
  refine WC.seq ?_
  refine WC.region ?_
  refine WL.y0' guard_none (Y0.loadLA 4 ag24 rfl rfl rfl) rfl ?_
  refine WL.call0 guard_none rfl (YC.of E12 rfl) (rMade _ (by assumption)) rfl (trivial) ?_
  refine WL.alloc 9 guard_none z27 rfl (fun b9 => ?_)
  refine WL.storeLA 9 guard_none sz27 rfl rfl rfl rfl rfl rfl ?_
  refine WL.nil ?_
  refine WE.then ?_
  refine WC.seq ?_
  refine WC.region ?_
  refine WL.y0' guard_none (Y0.loadLA 5 ag24 rfl rfl rfl) rfl ?_
  refine WL.call0 guard_none rfl (YC.of E12 rfl) (rMade _ (by assumption)) rfl (trivial) ?_
  refine WL.alloc 10 guard_none z27 rfl (fun b10 => ?_)
  refine WL.storeLA 10 guard_none sz27 rfl rfl rfl rfl rfl rfl ?_
  refine WL.nil ?_
  refine WE.then ?_
  refine WC.seq ?_
  refine WC.region ?_
  refine WL.y0' guard_none (Y0.loadLA 8 ag27 rfl rfl rfl) rfl ?_
  refine WL.y0' guard_none (Y0.loadLA 9 ag27 rfl rfl rfl) rfl ?_
  refine WL.call0 guard_none rfl (YC.of E21 rfl) (mLcm _ _) rfl (trivial) ?_
  refine WL.alloc 11 guard_none z27 rfl (fun b11 => ?_)
  refine WL.storeLA 11 guard_none sz27 rfl rfl rfl rfl rfl rfl ?_
  refine WL.nil ?_
  refine WE.then ?_
  refine WC.seq ?_
  refine WC.region ?_
  refine WL.y0' guard_none (Y0.loadLA 8 ag27 rfl rfl rfl) rfl ?_
  refine WL.y0' guard_none (Y0.loadLA 9 ag27 rfl rfl rfl) rfl ?_
  refine WL.call0 guard_none rfl (YC.of E23 rfl) (mGcd _ _) rfl (trivial) ?_
  refine WL.alloc 12 guard_none z27 rfl (fun b12 => ?_)
  refine WL.storeLA 12 guard_none sz27 rfl rfl rfl rfl rfl rfl ?_
  refine WL.nil ?_
  refine WE.then ?_
  refine WC.seq ?_
  refine WC.seq ?_
  refine WC.drawn [false, false, false, false, false, false, false, false, false, false, false, false, false, false, false, false, false, false, false, false, false, false, false, false, false, false, false, false, false, false, false, false, false, false, false, false] mix (by kernel_rfl) (fun hb => ?_)
  refine Chain.y0 guard_none (fun _ hle => Y0.loadLA 11 ag27 rfl rfl rfl) ?_
  refine Chain.y0 guard_none (fun _ hle => Y0.loadLA 9 ag27 rfl rfl rfl) ?_
  refine Chain.y0 guard_none (fun _ hle => Y0.loadLA 8 ag27 rfl rfl rfl) ?_
  refine Chain.call0 guard_none (fun _ => YC.of E21 rfl) (mLcm _ _) rfl (fun G' hle => trivial) ?_
  refine Chain.y0 guard_none (fun _ hle => Y0.eq (Y0.neqM Try.underlying27 Try.underlying3 sc3 sz3 eg27 rfl rfl) (congrArg Value.bool (decide_eq_false (fun h => h (maxM_comm _ _))))) ?_
  refine Chain.y0 guard_none (fun _ hle => Y0.move rfl) ?_
  refine Chain.y0 (guard_yes rfl rfl) (fun _ hle => Y0.loadLA 12 ag27 rfl rfl rfl) ?_
  refine Chain.y0 (guard_yes rfl rfl) (fun _ hle => Y0.loadLA 9 ag27 rfl rfl rfl) ?_
  refine Chain.y0 (guard_yes rfl rfl) (fun _ hle => Y0.loadLA 8 ag27 rfl rfl rfl) ?_
  refine Chain.call0 (guard_yes rfl rfl) (fun _ => YC.of E23 rfl) (mGcd _ _) rfl (fun G' hle => trivial) ?_
  refine Chain.y0 (guard_yes rfl rfl) (fun _ hle => Y0.eq (Y0.neqM Try.underlying27 Try.underlying3 sc3 sz3 eg27 rfl rfl) (congrArg Value.bool (decide_eq_false (fun h => h (minM_comm _ _))))) ?_
  refine Chain.y0 guard_none (fun _ hle => Y0.pickF rfl rfl) ?_
  refine Chain.y0 guard_none (fun _ hle => Y0.move rfl) ?_
  refine Chain.y0 (guard_yes rfl rfl) (fun _ hle => Y0.loadLA 8 ag27 rfl rfl rfl) ?_
  refine Chain.y0 (guard_yes rfl rfl) (fun _ hle => Y0.loadLA 11 ag27 rfl rfl rfl) ?_
  refine Chain.call0 (guard_yes rfl rfl) (fun _ => YC.of E17 rfl) (mDivides _ _) rfl (fun G' hle => trivial) ?_
  refine Chain.y0 (guard_yes rfl rfl) (fun _ hle => Y0.eq (Y0.notD rfl) (congrArg Value.bool (decide_eq_false (fun h => h (dvd_max_l _ _))))) ?_
  refine Chain.y0 guard_none (fun _ hle => Y0.pickF rfl rfl) ?_
  refine Chain.y0 guard_none (fun _ hle => Y0.move rfl) ?_
  refine Chain.y0 (guard_yes rfl rfl) (fun _ hle => Y0.loadLA 9 ag27 rfl rfl rfl) ?_
  refine Chain.y0 (guard_yes rfl rfl) (fun _ hle => Y0.loadLA 11 ag27 rfl rfl rfl) ?_
  refine Chain.call0 (guard_yes rfl rfl) (fun _ => YC.of E17 rfl) (mDivides _ _) rfl (fun G' hle => trivial) ?_
  refine Chain.y0 (guard_yes rfl rfl) (fun _ hle => Y0.eq (Y0.notD rfl) (congrArg Value.bool (decide_eq_false (fun h => h (dvd_max_r _ _))))) ?_
  refine Chain.y0 guard_none (fun _ hle => Y0.pickF rfl rfl) ?_
  refine Chain.y0 guard_none (fun _ hle => Y0.move rfl) ?_
  refine Chain.y0 (guard_yes rfl rfl) (fun _ hle => Y0.loadLA 12 ag27 rfl rfl rfl) ?_
  refine Chain.y0 (guard_yes rfl rfl) (fun _ hle => Y0.loadLA 8 ag27 rfl rfl rfl) ?_
  refine Chain.call0 (guard_yes rfl rfl) (fun _ => YC.of E17 rfl) (mDivides _ _) rfl (fun G' hle => trivial) ?_
  refine Chain.y0 (guard_yes rfl rfl) (fun _ hle => Y0.eq (Y0.notD rfl) (congrArg Value.bool (decide_eq_false (fun h => h (min_dvd_l _ _))))) ?_
  refine Chain.y0 guard_none (fun _ hle => Y0.pickF rfl rfl) ?_
  refine Chain.y0 guard_none (fun _ hle => Y0.move rfl) ?_
  refine Chain.y0 (guard_yes rfl rfl) (fun _ hle => Y0.loadLA 12 ag27 rfl rfl rfl) ?_
  refine Chain.y0 (guard_yes rfl rfl) (fun _ hle => Y0.loadLA 9 ag27 rfl rfl rfl) ?_
  refine Chain.call0 (guard_yes rfl rfl) (fun _ => YC.of E17 rfl) (mDivides _ _) rfl (fun G' hle => trivial) ?_
  refine Chain.y0 (guard_yes rfl rfl) (fun _ hle => Y0.eq (Y0.notD rfl) (congrArg Value.bool (decide_eq_false (fun h => h (min_dvd_r _ _))))) ?_
  refine Chain.y0 guard_none (fun _ hle => Y0.pickF rfl rfl) ?_
  refine Chain.tail0 hb ?_
  refine WL.nil ?_
  refine WE.nx ?_
  refine WE.then ?_
  refine WC.condF rfl ?_
  refine WC.skip ?_
  refine WE.then ?_
  refine WC.seq ?_
  refine WC.seq ?_
  refine WC.drawn [false, false, false, false, false, false, false, false, false, false, false, false, false, false, false, false, false, false, false, false, false, false, false, false, false, false] mix (by kernel_rfl) (fun hb => ?_)
  refine Chain.y0 guard_none (fun _ hle => Y0.loadLA 8 ag27 rfl rfl rfl) ?_
  refine Chain.y0 guard_none (fun _ hle => Y0.loadLA 10 ag27 rfl rfl rfl) ?_
  refine Chain.call0 guard_none (fun _ => YC.of E17 rfl) (mDivides _ _) rfl (fun G' hle => trivial) ?_
  refine Chain.caseY0 guard_none (fun _ hle => Y0.move rfl) (fun h71 => ?_) (fun h71 => ?_)
  · skip
    refine Chain.y0 (guard_yes rfl rfl) (fun _ hle => Y0.loadLA 9 ag27 rfl rfl rfl) ?_
    refine Chain.y0 (guard_yes rfl rfl) (fun _ hle => Y0.loadLA 10 ag27 rfl rfl rfl) ?_
    refine Chain.call0 (guard_yes rfl rfl) (fun _ => YC.of E17 rfl) (mDivides _ _) rfl (fun G' hle => trivial) ?_
    refine Chain.y0 guard_none (fun _ hle => Y0.pickT rfl rfl) ?_
    refine Chain.y0 guard_none (fun _ hle => Y0.loadLA 11 ag27 rfl rfl rfl) ?_
    refine Chain.y0 guard_none (fun _ hle => Y0.loadLA 10 ag27 rfl rfl rfl) ?_
    refine Chain.call0 guard_none (fun _ => YC.of E17 rfl) (mDivides _ _) rfl (fun G' hle => trivial) ?_
    refine Chain.y0 guard_none (fun _ hle => Y0.eq (Y0.neqB Try.underlying4 rfl rfl) (congrArg Value.bool (decide_eq_false (fun h => h (by simp [max_dvd_iff, h71]))))) ?_
    refine Chain.y0 guard_none (fun _ hle => Y0.move rfl) ?_
    refine Chain.y0 (guard_yes rfl rfl) (fun _ hle => Y0.loadLA 10 ag27 rfl rfl rfl) ?_
    refine Chain.y0 (guard_yes rfl rfl) (fun _ hle => Y0.loadLA 8 ag27 rfl rfl rfl) ?_
    refine Chain.call0 (guard_yes rfl rfl) (fun _ => YC.of E17 rfl) (mDivides _ _) rfl (fun G' hle => trivial) ?_
    refine Chain.caseY0 (guard_yes rfl rfl) (fun _ hle => Y0.move rfl) (fun h84 => ?_) (fun h84 => ?_)
    · skip
      refine Chain.y0 (guard_yes rfl rfl) (fun _ hle => Y0.loadLA 10 ag27 rfl rfl rfl) ?_
      refine Chain.y0 (guard_yes rfl rfl) (fun _ hle => Y0.loadLA 9 ag27 rfl rfl rfl) ?_
      refine Chain.call0 (guard_yes rfl rfl) (fun _ => YC.of E17 rfl) (mDivides _ _) rfl (fun G' hle => trivial) ?_
      refine Chain.y0 (guard_yes rfl rfl) (fun _ hle => Y0.pickT rfl rfl) ?_
      refine Chain.y0 (guard_yes rfl rfl) (fun _ hle => Y0.loadLA 10 ag27 rfl rfl rfl) ?_
      refine Chain.y0 (guard_yes rfl rfl) (fun _ hle => Y0.loadLA 12 ag27 rfl rfl rfl) ?_
      refine Chain.call0 (guard_yes rfl rfl) (fun _ => YC.of E17 rfl) (mDivides _ _) rfl (fun G' hle => trivial) ?_
      refine Chain.y0 (guard_yes rfl rfl) (fun _ hle => Y0.eq (Y0.neqB Try.underlying4 rfl rfl) (congrArg Value.bool (decide_eq_false (fun h => h (by simp [dvd_min_iff, h84]))))) ?_
      refine Chain.y0 guard_none (fun _ hle => Y0.pickF rfl rfl) ?_
      refine Chain.tail0 hb ?_
      refine WL.nil ?_
      refine WE.nx ?_
      refine WE.then ?_
      refine WC.condF rfl ?_
      refine WC.skip ?_
      refine WE.then ?_
      refine WC.seq ?_
      refine WC.region ?_
      refine WL.y0' guard_none (Y0.loadLA 8 ag27 rfl rfl rfl) rfl ?_
      refine WL.y0' guard_none (Y0.loadLA 9 ag27 rfl rfl rfl) rfl ?_
      refine WL.call0 guard_none rfl (YC.of E13 rfl) (mMulT _ _ (by assumption) (by assumption)) rfl (trivial) ?_
      refine WL.y0' guard_none (Y0.move rfl) rfl ?_
      refine WL.y0' guard_none (Y0.extract rfl rfl) rfl ?_
      refine WL.y0' guard_none (Y0.extract rfl rfl) rfl ?_
      refine WL.alloc 13 guard_none z27 rfl (fun b13 => ?_)
      refine WL.storeLA 13 guard_none sz27 rfl rfl rfl rfl rfl rfl ?_
      refine WL.y0' guard_none (Y0.assign rfl) rfl ?_
      refine WL.nil ?_
      refine WE.then ?_
      refine WC.seq ?_
      refine WC.region ?_
      refine WL.y0' guard_none (Y0.loadLA 11 ag27 rfl rfl rfl) rfl ?_
      refine WL.y0' guard_none (Y0.loadLA 12 ag27 rfl rfl rfl) rfl ?_
      refine WL.call0 guard_none rfl (YC.of E13 rfl) (mMulT _ _ (by assumption) (by assumption)) rfl (trivial) ?_
      refine WL.y0' guard_none (Y0.move rfl) rfl ?_
      refine WL.y0' guard_none (Y0.extract rfl rfl) rfl ?_
      refine WL.y0' guard_none (Y0.extract rfl rfl) rfl ?_
      refine WL.alloc 15 guard_none z27 rfl (fun b15 => ?_)
      refine WL.storeLA 15 guard_none sz27 rfl rfl rfl rfl rfl rfl ?_
      refine WL.y0' guard_none (Y0.assign rfl) rfl ?_
      refine WL.nil ?_
      refine WE.then ?_
      refine WC.seq ?_
      refine WC.drawn [false, false, false, false, false, false, false, false, false, false, false, false, false, false, false, false, false, false, false, false, false, false, false, false, false, false] mix (by kernel_rfl) (fun hb => ?_)
      refine Chain.y0 guard_none (fun _ hle => Y0.move rfl) ?_
      refine Chain.y0 guard_none (fun _ hle => Y0.move rfl) ?_
      refine Chain.y0 (guard_yes rfl rfl) (fun _ hle => Y0.loadLA 13 ag27 rfl rfl rfl) ?_
      refine Chain.y0 (guard_yes rfl rfl) (fun _ hle => Y0.loadLA 15 ag27 rfl rfl rfl) ?_
      refine Chain.y0 (guard_yes rfl rfl) (fun _ hle => Y0.eq (Y0.eqlM Try.underlying27 Try.underlying3 sc3 sz3 eg27 rfl rfl) (congrArg Value.bool (decide_eq_true (mul_max_min _ _)))) ?_
      refine Chain.y0 guard_none (fun _ hle => Y0.pickT rfl rfl) ?_
      refine Chain.y0 guard_none (fun _ hle => Y0.move rfl) ?_
      refine Chain.y0 (guard_yes rfl rfl) (fun _ hle => Y0.move rfl) ?_
      refine Chain.y0 (guard_yes rfl rfl) (fun _ hle => Y0.move rfl) ?_
      refine Chain.y0 (guard_yes rfl rfl) (fun _ hle => Y0.eq (Y0.eql rfl rfl) (congrArg Value.bool (decide_eq_true (mulE_max_min _ _)))) ?_
      refine Chain.y0 guard_none (fun _ hle => Y0.pickT rfl rfl) ?_
      refine Chain.y0 guard_none (fun _ hle => Y0.move rfl) ?_
      refine Chain.y0 (guard_yes rfl rfl) (fun _ hle => Y0.loadLA 11 ag27 rfl rfl rfl) ?_
      refine Chain.y0 (guard_yes rfl rfl) (fun _ hle => Y0.loadLA 12 ag27 rfl rfl rfl) ?_
      refine Chain.call0 (guard_yes rfl rfl) (fun _ => YC.of E21 rfl) (mLcm _ _) rfl (fun G' hle => trivial) ?_
      refine Chain.y0 (guard_yes rfl rfl) (fun _ hle => Y0.loadLA 11 ag27 rfl rfl rfl) ?_
      refine Chain.y0 (guard_yes rfl rfl) (fun _ hle => Y0.eq (Y0.eqlM Try.underlying27 Try.underlying3 sc3 sz3 eg27 rfl rfl) (congrArg Value.bool (decide_eq_true (max_max_min _ _)))) ?_
      refine Chain.y0 guard_none (fun _ hle => Y0.pickT rfl rfl) ?_
      refine Chain.y0 guard_none (fun _ hle => Y0.move rfl) ?_
      refine Chain.y0 (guard_yes rfl rfl) (fun _ hle => Y0.loadLA 11 ag27 rfl rfl rfl) ?_
      refine Chain.y0 (guard_yes rfl rfl) (fun _ hle => Y0.loadLA 12 ag27 rfl rfl rfl) ?_
      refine Chain.call0 (guard_yes rfl rfl) (fun _ => YC.of E23 rfl) (mGcd _ _) rfl (fun G' hle => trivial) ?_
      refine Chain.y0 (guard_yes rfl rfl) (fun _ hle => Y0.loadLA 12 ag27 rfl rfl rfl) ?_
      refine Chain.y0 (guard_yes rfl rfl) (fun _ hle => Y0.eq (Y0.eqlM Try.underlying27 Try.underlying3 sc3 sz3 eg27 rfl rfl) (congrArg Value.bool (decide_eq_true (min_max_min _ _)))) ?_
      refine Chain.y0 guard_none (fun _ hle => Y0.pickT rfl rfl) ?_
      refine Chain.y0 guard_none (fun _ hle => Y0.assign rfl) ?_
      refine Chain.tail0 hb ?_
      refine WL.nil ?_
      refine WE.nx ?_
      refine WE.then ?_
      refine WC.ret ?_
      refine WE.ret1 rfl rfl ?_
      rfl
    · skip
      refine Chain.skip (guard_noT rfl rfl) ?_
      refine Chain.skip (guard_noT rfl rfl) ?_
      refine Chain.skip (guard_noT rfl rfl) ?_
      refine Chain.y0 (guard_yes rfl rfl) (fun _ hle => Y0.pickF rfl rfl) ?_
      refine Chain.y0 (guard_yes rfl rfl) (fun _ hle => Y0.loadLA 10 ag27 rfl rfl rfl) ?_
      refine Chain.y0 (guard_yes rfl rfl) (fun _ hle => Y0.loadLA 12 ag27 rfl rfl rfl) ?_
      refine Chain.call0 (guard_yes rfl rfl) (fun _ => YC.of E17 rfl) (mDivides _ _) rfl (fun G' hle => trivial) ?_
      refine Chain.y0 (guard_yes rfl rfl) (fun _ hle => Y0.eq (Y0.neqB Try.underlying4 rfl rfl) (congrArg Value.bool (decide_eq_false (fun h => h (by simp [dvd_min_iff, h84]))))) ?_
      refine Chain.y0 guard_none (fun _ hle => Y0.pickF rfl rfl) ?_
      refine Chain.tail0 hb ?_
      refine WL.nil ?_
      refine WE.nx ?_
      refine WE.then ?_
      refine WC.condF rfl ?_
      refine WC.skip ?_
      refine WE.then ?_
      refine WC.seq ?_
      refine WC.region ?_
      refine WL.y0' guard_none (Y0.loadLA 8 ag27 rfl rfl rfl) rfl ?_
      refine WL.y0' guard_none (Y0.loadLA 9 ag27 rfl rfl rfl) rfl ?_
      refine WL.call0 guard_none rfl (YC.of E13 rfl) (mMulT _ _ (by assumption) (by assumption)) rfl (trivial) ?_
      refine WL.y0' guard_none (Y0.move rfl) rfl ?_
      refine WL.y0' guard_none (Y0.extract rfl rfl) rfl ?_
      refine WL.y0' guard_none (Y0.extract rfl rfl) rfl ?_
      refine WL.alloc 13 guard_none z27 rfl (fun b13 => ?_)
      refine WL.storeLA 13 guard_none sz27 rfl rfl rfl rfl rfl rfl ?_
      refine WL.y0' guard_none (Y0.assign rfl) rfl ?_
      refine WL.nil ?_
      refine WE.then ?_
      refine WC.seq ?_
      refine WC.region ?_
      refine WL.y0' guard_none (Y0.loadLA 11 ag27 rfl rfl rfl) rfl ?_
      refine WL.y0' guard_none (Y0.loadLA 12 ag27 rfl rfl rfl) rfl ?_
      refine WL.call0 guard_none rfl (YC.of E13 rfl) (mMulT _ _ (by assumption) (by assumption)) rfl (trivial) ?_
      refine WL.y0' guard_none (Y0.move rfl) rfl ?_
      refine WL.y0' guard_none (Y0.extract rfl rfl) rfl ?_
      refine WL.y0' guard_none (Y0.extract rfl rfl) rfl ?_
      refine WL.alloc 15 guard_none z27 rfl (fun b15 => ?_)
      refine WL.storeLA 15 guard_none sz27 rfl rfl rfl rfl rfl rfl ?_
      refine WL.y0' guard_none (Y0.assign rfl) rfl ?_
      refine WL.nil ?_
      refine WE.then ?_
      refine WC.seq ?_
      refine WC.drawn [false, false, false, false, false, false, false, false, false, false, false, false, false, false, false, false, false, false, false, false, false, false, false, false, false, false] mix (by kernel_rfl) (fun hb => ?_)
      refine Chain.y0 guard_none (fun _ hle => Y0.move rfl) ?_
      refine Chain.y0 guard_none (fun _ hle => Y0.move rfl) ?_
      refine Chain.y0 (guard_yes rfl rfl) (fun _ hle => Y0.loadLA 13 ag27 rfl rfl rfl) ?_
      refine Chain.y0 (guard_yes rfl rfl) (fun _ hle => Y0.loadLA 15 ag27 rfl rfl rfl) ?_
      refine Chain.y0 (guard_yes rfl rfl) (fun _ hle => Y0.eq (Y0.eqlM Try.underlying27 Try.underlying3 sc3 sz3 eg27 rfl rfl) (congrArg Value.bool (decide_eq_true (mul_max_min _ _)))) ?_
      refine Chain.y0 guard_none (fun _ hle => Y0.pickT rfl rfl) ?_
      refine Chain.y0 guard_none (fun _ hle => Y0.move rfl) ?_
      refine Chain.y0 (guard_yes rfl rfl) (fun _ hle => Y0.move rfl) ?_
      refine Chain.y0 (guard_yes rfl rfl) (fun _ hle => Y0.move rfl) ?_
      refine Chain.y0 (guard_yes rfl rfl) (fun _ hle => Y0.eq (Y0.eql rfl rfl) (congrArg Value.bool (decide_eq_true (mulE_max_min _ _)))) ?_
      refine Chain.y0 guard_none (fun _ hle => Y0.pickT rfl rfl) ?_
      refine Chain.y0 guard_none (fun _ hle => Y0.move rfl) ?_
      refine Chain.y0 (guard_yes rfl rfl) (fun _ hle => Y0.loadLA 11 ag27 rfl rfl rfl) ?_
      refine Chain.y0 (guard_yes rfl rfl) (fun _ hle => Y0.loadLA 12 ag27 rfl rfl rfl) ?_
      refine Chain.call0 (guard_yes rfl rfl) (fun _ => YC.of E21 rfl) (mLcm _ _) rfl (fun G' hle => trivial) ?_
      refine Chain.y0 (guard_yes rfl rfl) (fun _ hle => Y0.loadLA 11 ag27 rfl rfl rfl) ?_
      refine Chain.y0 (guard_yes rfl rfl) (fun _ hle => Y0.eq (Y0.eqlM Try.underlying27 Try.underlying3 sc3 sz3 eg27 rfl rfl) (congrArg Value.bool (decide_eq_true (max_max_min _ _)))) ?_
      refine Chain.y0 guard_none (fun _ hle => Y0.pickT rfl rfl) ?_
      refine Chain.y0 guard_none (fun _ hle => Y0.move rfl) ?_
      refine Chain.y0 (guard_yes rfl rfl) (fun _ hle => Y0.loadLA 11 ag27 rfl rfl rfl) ?_
      refine Chain.y0 (guard_yes rfl rfl) (fun _ hle => Y0.loadLA 12 ag27 rfl rfl rfl) ?_
      refine Chain.call0 (guard_yes rfl rfl) (fun _ => YC.of E23 rfl) (mGcd _ _) rfl (fun G' hle => trivial) ?_
      refine Chain.y0 (guard_yes rfl rfl) (fun _ hle => Y0.loadLA 12 ag27 rfl rfl rfl) ?_
      refine Chain.y0 (guard_yes rfl rfl) (fun _ hle => Y0.eq (Y0.eqlM Try.underlying27 Try.underlying3 sc3 sz3 eg27 rfl rfl) (congrArg Value.bool (decide_eq_true (min_max_min _ _)))) ?_
      refine Chain.y0 guard_none (fun _ hle => Y0.pickT rfl rfl) ?_
      refine Chain.y0 guard_none (fun _ hle => Y0.assign rfl) ?_
      refine Chain.tail0 hb ?_
      refine WL.nil ?_
      refine WE.nx ?_
      refine WE.then ?_
      refine WC.ret ?_
      refine WE.ret1 rfl rfl ?_
      rfl
  · skip
    refine Chain.skip (guard_noT rfl rfl) ?_
    refine Chain.skip (guard_noT rfl rfl) ?_
    refine Chain.skip (guard_noT rfl rfl) ?_
    refine Chain.y0 guard_none (fun _ hle => Y0.pickF rfl rfl) ?_
    refine Chain.y0 guard_none (fun _ hle => Y0.loadLA 11 ag27 rfl rfl rfl) ?_
    refine Chain.y0 guard_none (fun _ hle => Y0.loadLA 10 ag27 rfl rfl rfl) ?_
    refine Chain.call0 guard_none (fun _ => YC.of E17 rfl) (mDivides _ _) rfl (fun G' hle => trivial) ?_
    refine Chain.y0 guard_none (fun _ hle => Y0.eq (Y0.neqB Try.underlying4 rfl rfl) (congrArg Value.bool (decide_eq_false (fun h => h (by simp [max_dvd_iff, h71]))))) ?_
    refine Chain.y0 guard_none (fun _ hle => Y0.move rfl) ?_
    refine Chain.y0 (guard_yes rfl rfl) (fun _ hle => Y0.loadLA 10 ag27 rfl rfl rfl) ?_
    refine Chain.y0 (guard_yes rfl rfl) (fun _ hle => Y0.loadLA 8 ag27 rfl rfl rfl) ?_
    refine Chain.call0 (guard_yes rfl rfl) (fun _ => YC.of E17 rfl) (mDivides _ _) rfl (fun G' hle => trivial) ?_
    refine Chain.caseY0 (guard_yes rfl rfl) (fun _ hle => Y0.move rfl) (fun h84 => ?_) (fun h84 => ?_)
    · skip
      refine Chain.y0 (guard_yes rfl rfl) (fun _ hle => Y0.loadLA 10 ag27 rfl rfl rfl) ?_
      refine Chain.y0 (guard_yes rfl rfl) (fun _ hle => Y0.loadLA 9 ag27 rfl rfl rfl) ?_
      refine Chain.call0 (guard_yes rfl rfl) (fun _ => YC.of E17 rfl) (mDivides _ _) rfl (fun G' hle => trivial) ?_
      refine Chain.y0 (guard_yes rfl rfl) (fun _ hle => Y0.pickT rfl rfl) ?_
      refine Chain.y0 (guard_yes rfl rfl) (fun _ hle => Y0.loadLA 10 ag27 rfl rfl rfl) ?_
      refine Chain.y0 (guard_yes rfl rfl) (fun _ hle => Y0.loadLA 12 ag27 rfl rfl rfl) ?_
      refine Chain.call0 (guard_yes rfl rfl) (fun _ => YC.of E17 rfl) (mDivides _ _) rfl (fun G' hle => trivial) ?_
      refine Chain.y0 (guard_yes rfl rfl) (fun _ hle => Y0.eq (Y0.neqB Try.underlying4 rfl rfl) (congrArg Value.bool (decide_eq_false (fun h => h (by simp [dvd_min_iff, h84]))))) ?_
      refine Chain.y0 guard_none (fun _ hle => Y0.pickF rfl rfl) ?_
      refine Chain.tail0 hb ?_
      refine WL.nil ?_
      refine WE.nx ?_
      refine WE.then ?_
      refine WC.condF rfl ?_
      refine WC.skip ?_
      refine WE.then ?_
      refine WC.seq ?_
      refine WC.region ?_
      refine WL.y0' guard_none (Y0.loadLA 8 ag27 rfl rfl rfl) rfl ?_
      refine WL.y0' guard_none (Y0.loadLA 9 ag27 rfl rfl rfl) rfl ?_
      refine WL.call0 guard_none rfl (YC.of E13 rfl) (mMulT _ _ (by assumption) (by assumption)) rfl (trivial) ?_
      refine WL.y0' guard_none (Y0.move rfl) rfl ?_
      refine WL.y0' guard_none (Y0.extract rfl rfl) rfl ?_
      refine WL.y0' guard_none (Y0.extract rfl rfl) rfl ?_
      refine WL.alloc 13 guard_none z27 rfl (fun b13 => ?_)
      refine WL.storeLA 13 guard_none sz27 rfl rfl rfl rfl rfl rfl ?_
      refine WL.y0' guard_none (Y0.assign rfl) rfl ?_
      refine WL.nil ?_
      refine WE.then ?_
      refine WC.seq ?_
      refine WC.region ?_
      refine WL.y0' guard_none (Y0.loadLA 11 ag27 rfl rfl rfl) rfl ?_
      refine WL.y0' guard_none (Y0.loadLA 12 ag27 rfl rfl rfl) rfl ?_
      refine WL.call0 guard_none rfl (YC.of E13 rfl) (mMulT _ _ (by assumption) (by assumption)) rfl (trivial) ?_
      refine WL.y0' guard_none (Y0.move rfl) rfl ?_
      refine WL.y0' guard_none (Y0.extract rfl rfl) rfl ?_
      refine WL.y0' guard_none (Y0.extract rfl rfl) rfl ?_
      refine WL.alloc 15 guard_none z27 rfl (fun b15 => ?_)
      refine WL.storeLA 15 guard_none sz27 rfl rfl rfl rfl rfl rfl ?_
      refine WL.y0' guard_none (Y0.assign rfl) rfl ?_
      refine WL.nil ?_
      refine WE.then ?_
      refine WC.seq ?_
      refine WC.drawn [false, false, false, false, false, false, false, false, false, false, false, false, false, false, false, false, false, false, false, false, false, false, false, false, false, false] mix (by kernel_rfl) (fun hb => ?_)
      refine Chain.y0 guard_none (fun _ hle => Y0.move rfl) ?_
      refine Chain.y0 guard_none (fun _ hle => Y0.move rfl) ?_
      refine Chain.y0 (guard_yes rfl rfl) (fun _ hle => Y0.loadLA 13 ag27 rfl rfl rfl) ?_
      refine Chain.y0 (guard_yes rfl rfl) (fun _ hle => Y0.loadLA 15 ag27 rfl rfl rfl) ?_
      refine Chain.y0 (guard_yes rfl rfl) (fun _ hle => Y0.eq (Y0.eqlM Try.underlying27 Try.underlying3 sc3 sz3 eg27 rfl rfl) (congrArg Value.bool (decide_eq_true (mul_max_min _ _)))) ?_
      refine Chain.y0 guard_none (fun _ hle => Y0.pickT rfl rfl) ?_
      refine Chain.y0 guard_none (fun _ hle => Y0.move rfl) ?_
      refine Chain.y0 (guard_yes rfl rfl) (fun _ hle => Y0.move rfl) ?_
      refine Chain.y0 (guard_yes rfl rfl) (fun _ hle => Y0.move rfl) ?_
      refine Chain.y0 (guard_yes rfl rfl) (fun _ hle => Y0.eq (Y0.eql rfl rfl) (congrArg Value.bool (decide_eq_true (mulE_max_min _ _)))) ?_
      refine Chain.y0 guard_none (fun _ hle => Y0.pickT rfl rfl) ?_
      refine Chain.y0 guard_none (fun _ hle => Y0.move rfl) ?_
      refine Chain.y0 (guard_yes rfl rfl) (fun _ hle => Y0.loadLA 11 ag27 rfl rfl rfl) ?_
      refine Chain.y0 (guard_yes rfl rfl) (fun _ hle => Y0.loadLA 12 ag27 rfl rfl rfl) ?_
      refine Chain.call0 (guard_yes rfl rfl) (fun _ => YC.of E21 rfl) (mLcm _ _) rfl (fun G' hle => trivial) ?_
      refine Chain.y0 (guard_yes rfl rfl) (fun _ hle => Y0.loadLA 11 ag27 rfl rfl rfl) ?_
      refine Chain.y0 (guard_yes rfl rfl) (fun _ hle => Y0.eq (Y0.eqlM Try.underlying27 Try.underlying3 sc3 sz3 eg27 rfl rfl) (congrArg Value.bool (decide_eq_true (max_max_min _ _)))) ?_
      refine Chain.y0 guard_none (fun _ hle => Y0.pickT rfl rfl) ?_
      refine Chain.y0 guard_none (fun _ hle => Y0.move rfl) ?_
      refine Chain.y0 (guard_yes rfl rfl) (fun _ hle => Y0.loadLA 11 ag27 rfl rfl rfl) ?_
      refine Chain.y0 (guard_yes rfl rfl) (fun _ hle => Y0.loadLA 12 ag27 rfl rfl rfl) ?_
      refine Chain.call0 (guard_yes rfl rfl) (fun _ => YC.of E23 rfl) (mGcd _ _) rfl (fun G' hle => trivial) ?_
      refine Chain.y0 (guard_yes rfl rfl) (fun _ hle => Y0.loadLA 12 ag27 rfl rfl rfl) ?_
      refine Chain.y0 (guard_yes rfl rfl) (fun _ hle => Y0.eq (Y0.eqlM Try.underlying27 Try.underlying3 sc3 sz3 eg27 rfl rfl) (congrArg Value.bool (decide_eq_true (min_max_min _ _)))) ?_
      refine Chain.y0 guard_none (fun _ hle => Y0.pickT rfl rfl) ?_
      refine Chain.y0 guard_none (fun _ hle => Y0.assign rfl) ?_
      refine Chain.tail0 hb ?_
      refine WL.nil ?_
      refine WE.nx ?_
      refine WE.then ?_
      refine WC.ret ?_
      refine WE.ret1 rfl rfl ?_
      rfl
    · skip
      refine Chain.skip (guard_noT rfl rfl) ?_
      refine Chain.skip (guard_noT rfl rfl) ?_
      refine Chain.skip (guard_noT rfl rfl) ?_
      refine Chain.y0 (guard_yes rfl rfl) (fun _ hle => Y0.pickF rfl rfl) ?_
      refine Chain.y0 (guard_yes rfl rfl) (fun _ hle => Y0.loadLA 10 ag27 rfl rfl rfl) ?_
      refine Chain.y0 (guard_yes rfl rfl) (fun _ hle => Y0.loadLA 12 ag27 rfl rfl rfl) ?_
      refine Chain.call0 (guard_yes rfl rfl) (fun _ => YC.of E17 rfl) (mDivides _ _) rfl (fun G' hle => trivial) ?_
      refine Chain.y0 (guard_yes rfl rfl) (fun _ hle => Y0.eq (Y0.neqB Try.underlying4 rfl rfl) (congrArg Value.bool (decide_eq_false (fun h => h (by simp [dvd_min_iff, h84]))))) ?_
      refine Chain.y0 guard_none (fun _ hle => Y0.pickF rfl rfl) ?_
      refine Chain.tail0 hb ?_
      refine WL.nil ?_
      refine WE.nx ?_
      refine WE.then ?_
      refine WC.condF rfl ?_
      refine WC.skip ?_
      refine WE.then ?_
      refine WC.seq ?_
      refine WC.region ?_
      refine WL.y0' guard_none (Y0.loadLA 8 ag27 rfl rfl rfl) rfl ?_
      refine WL.y0' guard_none (Y0.loadLA 9 ag27 rfl rfl rfl) rfl ?_
      refine WL.call0 guard_none rfl (YC.of E13 rfl) (mMulT _ _ (by assumption) (by assumption)) rfl (trivial) ?_
      refine WL.y0' guard_none (Y0.move rfl) rfl ?_
      refine WL.y0' guard_none (Y0.extract rfl rfl) rfl ?_
      refine WL.y0' guard_none (Y0.extract rfl rfl) rfl ?_
      refine WL.alloc 13 guard_none z27 rfl (fun b13 => ?_)
      refine WL.storeLA 13 guard_none sz27 rfl rfl rfl rfl rfl rfl ?_
      refine WL.y0' guard_none (Y0.assign rfl) rfl ?_
      refine WL.nil ?_
      refine WE.then ?_
      refine WC.seq ?_
      refine WC.region ?_
      refine WL.y0' guard_none (Y0.loadLA 11 ag27 rfl rfl rfl) rfl ?_
      refine WL.y0' guard_none (Y0.loadLA 12 ag27 rfl rfl rfl) rfl ?_
      refine WL.call0 guard_none rfl (YC.of E13 rfl) (mMulT _ _ (by assumption) (by assumption)) rfl (trivial) ?_
      refine WL.y0' guard_none (Y0.move rfl) rfl ?_
      refine WL.y0' guard_none (Y0.extract rfl rfl) rfl ?_
      refine WL.y0' guard_none (Y0.extract rfl rfl) rfl ?_
      refine WL.alloc 15 guard_none z27 rfl (fun b15 => ?_)
      refine WL.storeLA 15 guard_none sz27 rfl rfl rfl rfl rfl rfl ?_
      refine WL.y0' guard_none (Y0.assign rfl) rfl ?_
      refine WL.nil ?_
      refine WE.then ?_
      refine WC.seq ?_
      refine WC.drawn [false, false, false, false, false, false, false, false, false, false, false, false, false, false, false, false, false, false, false, false, false, false, false, false, false, false] mix (by kernel_rfl) (fun hb => ?_)
      refine Chain.y0 guard_none (fun _ hle => Y0.move rfl) ?_
      refine Chain.y0 guard_none (fun _ hle => Y0.move rfl) ?_
      refine Chain.y0 (guard_yes rfl rfl) (fun _ hle => Y0.loadLA 13 ag27 rfl rfl rfl) ?_
      refine Chain.y0 (guard_yes rfl rfl) (fun _ hle => Y0.loadLA 15 ag27 rfl rfl rfl) ?_
      refine Chain.y0 (guard_yes rfl rfl) (fun _ hle => Y0.eq (Y0.eqlM Try.underlying27 Try.underlying3 sc3 sz3 eg27 rfl rfl) (congrArg Value.bool (decide_eq_true (mul_max_min _ _)))) ?_
      refine Chain.y0 guard_none (fun _ hle => Y0.pickT rfl rfl) ?_
      refine Chain.y0 guard_none (fun _ hle => Y0.move rfl) ?_
      refine Chain.y0 (guard_yes rfl rfl) (fun _ hle => Y0.move rfl) ?_
      refine Chain.y0 (guard_yes rfl rfl) (fun _ hle => Y0.move rfl) ?_
      refine Chain.y0 (guard_yes rfl rfl) (fun _ hle => Y0.eq (Y0.eql rfl rfl) (congrArg Value.bool (decide_eq_true (mulE_max_min _ _)))) ?_
      refine Chain.y0 guard_none (fun _ hle => Y0.pickT rfl rfl) ?_
      refine Chain.y0 guard_none (fun _ hle => Y0.move rfl) ?_
      refine Chain.y0 (guard_yes rfl rfl) (fun _ hle => Y0.loadLA 11 ag27 rfl rfl rfl) ?_
      refine Chain.y0 (guard_yes rfl rfl) (fun _ hle => Y0.loadLA 12 ag27 rfl rfl rfl) ?_
      refine Chain.call0 (guard_yes rfl rfl) (fun _ => YC.of E21 rfl) (mLcm _ _) rfl (fun G' hle => trivial) ?_
      refine Chain.y0 (guard_yes rfl rfl) (fun _ hle => Y0.loadLA 11 ag27 rfl rfl rfl) ?_
      refine Chain.y0 (guard_yes rfl rfl) (fun _ hle => Y0.eq (Y0.eqlM Try.underlying27 Try.underlying3 sc3 sz3 eg27 rfl rfl) (congrArg Value.bool (decide_eq_true (max_max_min _ _)))) ?_
      refine Chain.y0 guard_none (fun _ hle => Y0.pickT rfl rfl) ?_
      refine Chain.y0 guard_none (fun _ hle => Y0.move rfl) ?_
      refine Chain.y0 (guard_yes rfl rfl) (fun _ hle => Y0.loadLA 11 ag27 rfl rfl rfl) ?_
      refine Chain.y0 (guard_yes rfl rfl) (fun _ hle => Y0.loadLA 12 ag27 rfl rfl rfl) ?_
      refine Chain.call0 (guard_yes rfl rfl) (fun _ => YC.of E23 rfl) (mGcd _ _) rfl (fun G' hle => trivial) ?_
      refine Chain.y0 (guard_yes rfl rfl) (fun _ hle => Y0.loadLA 12 ag27 rfl rfl rfl) ?_
      refine Chain.y0 (guard_yes rfl rfl) (fun _ hle => Y0.eq (Y0.eqlM Try.underlying27 Try.underlying3 sc3 sz3 eg27 rfl rfl) (congrArg Value.bool (decide_eq_true (min_max_min _ _)))) ?_
      refine Chain.y0 guard_none (fun _ hle => Y0.pickT rfl rfl) ?_
      refine Chain.y0 guard_none (fun _ hle => Y0.assign rfl) ?_
      refine Chain.tail0 hb ?_
      refine WL.nil ?_
      refine WE.nx ?_
      refine WE.then ?_
      refine WC.ret ?_
      refine WE.ret1 rfl rfl ?_
      rfl

theorem cMonomialOrders (x y z : M) (hx : Ok x) (hy : Ok y) (hz : Ok z) : Ctr Try.prog 8 #[.agg (vecU x), .agg (vecU y), .agg (vecU z)] (fun G => True) (fun G r => r = .bool true) := by
  refine Ctr.enter (args := [_, _, _]) (N := 107) Try.func8 rfl rfl rfl (fun w0 G0 hL0 hpre => ?_)
  have sx : Sm x := hx.sm
  have sy : Sm y := hy.sm
  have sz : Sm z := hz.sm
  have hr := cmpM_range x y
  refine WC.seq ?_
  refine WC.region ?_
  refine WL.box 3 guard_none rfl rfl (fun b3 => ?_)
  refine WL.box 4 guard_none rfl rfl (fun b4 => ?_)
  refine WL.box 5 guard_none rfl rfl (fun b5 => ?_)
  refine WL.y0' guard_none (Y0.assign rfl) rfl ?_
  refine WL.nil ?_
  refine WE.then ?_
  refine WC.seq ?_
  refine WC.region ?_
  refine WL.call0 guard_none rfl (YC.of E11 rfl) (lsanity) rfl (trivial) ?_
  refine WL.y0' guard_none (Y0.assign rfl) rfl ?_
  refine WL.nil ?_
  refine WE.then ?_
  refine WC.seq ?_
  refine WC.seq ?_
  refine WC.region ?_
  refine WL.y0' guard_none (Y0.move rfl) rfl ?_
  refine WL.y0' guard_none (Y0.not rfl) rfl ?_
  refine WL.nil ?_
  refine WE.then ?_
  refine WC.condF rfl ?_
  refine WC.skip ?_
  refine WE.then ?_
  refine WC.seq ?_
  refine WC.region ?_
  refine WL.y0' guard_none (Y0.loadLA 3 ag24 rfl rfl rfl) rfl ?_
  refine WL.call0 guard_none rfl (YC.of E12 rfl) (rMade _ (by assumption)) rfl (trivial) ?_
  refine WL.alloc 8 guard_none z27 rfl (fun b8 => ?_)
  refine WL.storeLA 8 guard_none sz27 rfl rfl rfl rfl rfl rfl ?_
  refine WL.nil ?_
  refine WE.then ?_
  refine WC.seq ?_
  refine WC.region ?_
  refine WL.y0' guard_none (Y0.loadLA 4 ag24 rfl rfl rfl) rfl ?_
  refine WL.call0 guard_none rfl (YC.of E12 rfl) (rMade _ (by assumption)) rfl (trivial) ?_
  refine WL.alloc 9 guard_none z27 rfl (fun b9 => ?_)
  refine WL.storeLA 9 guard_none sz27 rfl rfl rfl rfl rfl rfl ?_
  refine WL.nil ?_
  refine WE.then ?_
  refine WC.seq ?_
  refine WC.region ?_
  refine WL.y0' guard_none (Y0.loadLA 5 ag24 rfl rfl rfl) rfl ?_
  refine WL.call0 guard_none rfl (YC.of E12 rfl) (rMade _ (by assumption)) rfl (trivial) ?_
  refine WL.alloc 10 guard_none z27 rfl (fun b10 => ?_)
  refine WL.storeLA 10 guard_none sz27 rfl rfl rfl rfl rfl rfl ?_
  refine WL.nil ?_
  refine WE.then ?_
  refine WC.seq ?_
  refine WC.region ?_
  refine WL.y0' guard_none (Y0.loadLA 8 ag27 rfl rfl rfl) rfl ?_
  refine WL.y0' guard_none (Y0.loadLA 9 ag27 rfl rfl rfl) rfl ?_
  refine WL.call0 guard_none rfl (YC.of E19 rfl) (mCmp _ _) rfl (trivial) ?_
  refine WL.y0' guard_none (Y0.assign rfl) rfl ?_
  refine WL.nil ?_
  refine WE.then ?_
  refine WC.seq ?_
  refine WC.seq ?_
  refine WC.drawn [false, false, false, false, false, false, false, false, false, false, false, false, false, false, false, false, false, false, false, false, false, false, false, false, false, false, false, false, false, false, false, false, false, false, false, false, false, false] mix (by kernel_rfl) (fun hb => ?_)
  refine Chain.y0 guard_none (fun _ hle => Y0.move rfl) ?_
  refine Chain.y0 guard_none (fun _ hle => Y0.eq (Y0.lss rfl rfl) (congrArg Value.bool (decide_eq_false (by omega)))) ?_
  refine Chain.y0 guard_none (fun _ hle => Y0.move rfl) ?_
  refine Chain.y0 (guard_yes rfl rfl) (fun _ hle => Y0.move rfl) ?_
  refine Chain.y0 (guard_yes rfl rfl) (fun _ hle => Y0.eq (Y0.gtr rfl rfl) (congrArg Value.bool (decide_eq_false (by omega)))) ?_
  refine Chain.y0 guard_none (fun _ hle => Y0.pickF rfl rfl) ?_
  refine Chain.y0 guard_none (fun _ hle => Y0.move rfl) ?_
  refine Chain.y0 (guard_yes rfl rfl) (fun _ hle => Y0.loadLA 9 ag27 rfl rfl rfl) ?_
  refine Chain.y0 (guard_yes rfl rfl) (fun _ hle => Y0.loadLA 8 ag27 rfl rfl rfl) ?_
  refine Chain.call0 (guard_yes rfl rfl) (fun _ => YC.of E19 rfl) (mCmp _ _) rfl (fun G' hle => trivial) ?_
  refine Chain.y0 (guard_yes rfl rfl) (fun _ hle => Y0.move rfl) ?_
  refine Chain.y0 (guard_yes rfl rfl) (fun _ hle => Y0.eq (Y0.neg rfl) (congrArg (Value.int .i64) (cmp_neg_val _ _))) ?_
  refine Chain.y0 (guard_yes rfl rfl) (fun _ hle => Y0.eq (Y0.neq rfl rfl) (congrArg Value.bool (decide_eq_false (fun h => h rfl)))) ?_
  refine Chain.y0 guard_none (fun _ hle => Y0.pickF rfl rfl) ?_
  refine Chain.y0 guard_none (fun _ hle => Y0.move rfl) ?_
  refine Chain.y0 (guard_yes rfl rfl) (fun _ hle => Y0.move rfl) ?_
  refine Chain.y0 (guard_yes rfl rfl) (fun _ hle => Y0.eql rfl rfl) ?_
  refine Chain.y0 (guard_yes rfl rfl) (fun _ hle => Y0.loadLA 8 ag27 rfl rfl rfl) ?_
  refine Chain.y0 (guard_yes rfl rfl) (fun _ hle => Y0.loadLA 9 ag27 rfl rfl rfl) ?_
  refine Chain.y0 (guard_yes rfl rfl) (fun _ hle => Y0.eqlM Try.underlying27 Try.underlying3 sc3 sz3 eg27 rfl rfl) ?_
  refine Chain.y0 (guard_yes rfl rfl) (fun _ hle => Y0.eq (Y0.neqB Try.underlying4 rfl rfl) (congrArg Value.bool (decide_eq_false (fun h => h (by simp [cmpM_zero_iff]))))) ?_
  refine Chain.y0 guard_none (fun _ hle => Y0.pickF rfl rfl) ?_
  refine Chain.y0 guard_none (fun _ hle => Y0.move rfl) ?_
  refine Chain.y0 (guard_yes rfl rfl) (fun _ hle => Y0.loadLA 8 ag27 rfl rfl rfl) ?_
  refine Chain.y0 (guard_yes rfl rfl) (fun _ hle => Y0.buildM0 bz27) ?_
  refine Chain.call0 (guard_yes rfl rfl) (fun _ => YC.of E19 rfl) (mCmp _ _) rfl (fun G' hle => trivial) ?_
  refine Chain.y0 (guard_yes rfl rfl) (fun _ hle => Y0.eql rfl rfl) ?_
  refine Chain.y0 (guard_yes rfl rfl) (fun _ hle => Y0.loadLA 8 ag27 rfl rfl rfl) ?_
  refine Chain.y0 (guard_yes rfl rfl) (fun _ hle => Y0.buildM0 bz27) ?_
  refine Chain.y0 (guard_yes rfl rfl) (fun _ hle => Y0.eqlM Try.underlying27 Try.underlying3 sc3 sz3 eg27 rfl rfl) ?_
  refine Chain.y0 (guard_yes rfl rfl) (fun _ hle => Y0.eq (Y0.neqB Try.underlying4 rfl rfl) (congrArg Value.bool (decide_eq_false (fun h => h (by simp [cmpM_zero_iff]))))) ?_
  refine Chain.y0 guard_none (fun _ hle => Y0.pickF rfl rfl) ?_
  refine Chain.y0 guard_none (fun _ hle => Y0.move rfl) ?_
  refine Chain.y0 (guard_yes rfl rfl) (fun _ hle => Y0.loadLA 8 ag27 rfl rfl rfl) ?_
  refine Chain.y0 (guard_yes rfl rfl) (fun _ hle => Y0.buildM0 bz27) ?_
  refine Chain.call0 (guard_yes rfl rfl) (fun _ => YC.of E19 rfl) (mCmp _ _) rfl (fun G' hle => trivial) ?_
  refine Chain.y0 (guard_yes rfl rfl) (fun _ hle => Y0.eq (Y0.lss rfl rfl) (congrArg Value.bool (decide_eq_false (by have := cmp_zero_le hx; omega)))) ?_
  refine Chain.y0 guard_none (fun _ hle => Y0.pickF rfl rfl) ?_
  refine Chain.tail0 hb ?_
  refine WL.nil ?_
  refine WE.nx ?_
  refine WE.then ?_
  refine WC.condF rfl ?_
  refine WC.skip ?_
  refine WE.then ?_
  refine WC.seq ?_
  refine WC.seq ?_
  refine WC.region ?_
  refine WL.y0' guard_none (Y0.move rfl) rfl ?_
  refine WL.caseY0 guard_none (Y0.lss rfl rfl) rfl (fun h67 => ?_) (fun h67 => ?_)
  · skip
    refine WL.y0' guard_none (Y0.move rfl) rfl ?_
    refine WL.y0' (guard_yes rfl rfl) (Y0.loadLA 9 ag27 rfl rfl rfl) rfl ?_
    refine WL.y0' (guard_yes rfl rfl) (Y0.loadLA 10 ag27 rfl rfl rfl) rfl ?_
    refine WL.call0 (guard_yes rfl rfl) rfl (YC.of E19 rfl) (mCmp _ _) rfl (trivial) ?_
    refine WL.caseY0 (guard_yes rfl rfl) (Y0.leq rfl rfl) rfl (fun h72 => ?_) (fun h72 => ?_)
    · skip
      refine WL.y0' guard_none (Y0.pickT rfl rfl) rfl ?_
      refine WL.y0' guard_none (Y0.move rfl) rfl ?_
      refine WL.y0' (guard_yes rfl rfl) (Y0.loadLA 8 ag27 rfl rfl rfl) rfl ?_
      refine WL.y0' (guard_yes rfl rfl) (Y0.loadLA 10 ag27 rfl rfl rfl) rfl ?_
      refine WL.call0 (guard_yes rfl rfl) rfl (YC.of E19 rfl) (mCmp _ _) rfl (trivial) ?_
      refine WL.y0' (guard_yes rfl rfl) (Y0.eq (Y0.neq rfl rfl) (congrArg Value.bool (decide_eq_false (fun h => h (cmp_lt_le h67 h72))))) rfl ?_
      refine WL.y0' guard_none (Y0.pickT rfl rfl) rfl ?_
      refine WL.nil ?_
      refine WE.then ?_
      refine WC.condF rfl ?_
      refine WC.skip ?_
      refine WE.then ?_
      refine WC.seq ?_
      refine WC.region ?_
      refine WL.y0' guard_none (Y0.loadLA 8 ag27 rfl rfl rfl) rfl ?_
      refine WL.y0' guard_none (Y0.loadLA 10 ag27 rfl rfl rfl) rfl ?_
      refine WL.call0 guard_none rfl (YC.of E13 rfl) (mMulT _ _ (by assumption) (by assumption)) rfl (trivial) ?_
      refine WL.y0' guard_none (Y0.move rfl) rfl ?_
      refine WL.y0' guard_none (Y0.extract rfl rfl) rfl ?_
      refine WL.y0' guard_none (Y0.extract rfl rfl) rfl ?_
      refine WL.alloc 12 guard_none z27 rfl (fun b12 => ?_)
      refine WL.storeLA 12 guard_none sz27 rfl rfl rfl rfl rfl rfl ?_
      refine WL.y0' guard_none (Y0.assign rfl) rfl ?_
      refine WL.nil ?_
      refine WE.then ?_
      refine WC.seq ?_
      refine WC.region ?_
      refine WL.y0' guard_none (Y0.loadLA 9 ag27 rfl rfl rfl) rfl ?_
      refine WL.y0' guard_none (Y0.loadLA 10 ag27 rfl rfl rfl) rfl ?_
      refine WL.call0 guard_none rfl (YC.of E13 rfl) (mMulT _ _ (by assumption) (by assumption)) rfl (trivial) ?_
      refine WL.y0' guard_none (Y0.move rfl) rfl ?_
      refine WL.y0' guard_none (Y0.extract rfl rfl) rfl ?_
      refine WL.y0' guard_none (Y0.extract rfl rfl) rfl ?_
      refine WL.alloc 14 guard_none z27 rfl (fun b14 => ?_)
      refine WL.storeLA 14 guard_none sz27 rfl rfl rfl rfl rfl rfl ?_
      refine WL.y0' guard_none (Y0.assign rfl) rfl ?_
      refine WL.nil ?_
      refine WE.then ?_
      refine WC.seq ?_
      refine WC.seq ?_
      refine WC.region ?_
      refine WL.y0' guard_none (Y0.move rfl) rfl ?_
      refine WL.caseY0 guard_none (Y0.neq rfl rfl) rfl (fun h93 => ?_) (fun h93 => ?_)
      · skip
        refine WL.y0' guard_none (Y0.move rfl) rfl ?_
        refine WL.skip (guard_noF rfl rfl) rfl ?_
        refine WL.skip (guard_noF rfl rfl) rfl ?_
        refine WL.y0' guard_none (Y0.pickT rfl rfl) rfl ?_
        refine WL.nil ?_
        refine WE.then ?_
        refine WC.condT rfl ?_
        refine WC.seq ?_
        refine WC.region ?_
        refine WL.y0' guard_none (Y0.move rfl) rfl ?_
        refine WL.y0' guard_none (Y0.assign rfl) rfl ?_
        refine WL.nil ?_
        refine WE.then ?_
        refine WC.ret ?_
        refine WE.thenRet ?_
        refine WE.ret1 rfl rfl ?_
        rfl
      · skip
        refine WL.y0' guard_none (Y0.move rfl) rfl ?_
        refine WL.y0' (guard_yes rfl rfl) (Y0.move rfl) rfl ?_
        refine WL.caseY0 (guard_yes rfl rfl) (Y0.neq rfl rfl) rfl (fun h96 => ?_) (fun h96 => ?_)
        · skip
          refine WL.y0' guard_none (Y0.pickF rfl rfl) rfl ?_
          refine WL.nil ?_
          refine WE.then ?_
          refine WC.condT rfl ?_
          refine WC.seq ?_
          refine WC.region ?_
          refine WL.y0' guard_none (Y0.move rfl) rfl ?_
          refine WL.y0' guard_none (Y0.assign rfl) rfl ?_
          refine WL.nil ?_
          refine WE.then ?_
          refine WC.ret ?_
          refine WE.thenRet ?_
          refine WE.ret1 rfl rfl ?_
          rfl
        · skip
          refine WL.y0' guard_none (Y0.pickF rfl rfl) rfl ?_
          refine WL.nil ?_
          refine WE.then ?_
          refine WC.condF rfl ?_
          refine WC.skip ?_
          refine WE.then ?_
          refine WC.seq ?_
          refine WC.region ?_
          refine WL.y0' guard_none (Y0.move rfl) rfl ?_
          refine WL.y0' guard_none (Y0.move rfl) rfl ?_
          refine WL.y0' (guard_yes rfl rfl) (Y0.loadLA 12 ag27 rfl rfl rfl) rfl ?_
          refine WL.y0' (guard_yes rfl rfl) (Y0.loadLA 14 ag27 rfl rfl rfl) rfl ?_
          refine WL.call0 (guard_yes rfl rfl) rfl (YC.of E19 rfl) (mCmp _ _) rfl (trivial) ?_
          refine WL.y0' (guard_yes rfl rfl) (Y0.move rfl) rfl ?_
          refine WL.y0' (guard_yes rfl rfl) (Y0.eq (Y0.eql rfl rfl) (congrArg Value.bool (decide_eq_true (cmp_mul h93 h96)))) rfl ?_
          refine WL.y0' guard_none (Y0.pickT rfl rfl) rfl ?_
          refine WL.y0' guard_none (Y0.assign rfl) rfl ?_
          refine WL.nil ?_
          refine WE.then ?_
          refine WC.ret ?_
          refine WE.ret1 rfl rfl ?_
          rfl
    · skip
      refine WL.y0' guard_none (Y0.pickT rfl rfl) rfl ?_
      refine WL.y0' guard_none (Y0.move rfl) rfl ?_
      refine WL.skip (guard_noT rfl rfl) rfl ?_
      refine WL.skip (guard_noT rfl rfl) rfl ?_
      refine WL.skip (guard_noT rfl rfl) rfl ?_
      refine WL.skip (guard_noT rfl rfl) rfl ?_
      refine WL.y0' guard_none (Y0.pickF rfl rfl) rfl ?_
      refine WL.nil ?_
      refine WE.then ?_
      refine WC.condF rfl ?_
      refine WC.skip ?_
      refine WE.then ?_
      refine WC.seq ?_
      refine WC.region ?_
      refine WL.y0' guard_none (Y0.loadLA 8 ag27 rfl rfl rfl) rfl ?_
      refine WL.y0' guard_none (Y0.loadLA 10 ag27 rfl rfl rfl) rfl ?_
      refine WL.call0 guard_none rfl (YC.of E13 rfl) (mMulT _ _ (by assumption) (by assumption)) rfl (trivial) ?_
      refine WL.y0' guard_none (Y0.move rfl) rfl ?_
      refine WL.y0' guard_none (Y0.extract rfl rfl) rfl ?_
      refine WL.y0' guard_none (Y0.extract rfl rfl) rfl ?_
      refine WL.alloc 12 guard_none z27 rfl (fun b12 => ?_)
      refine WL.storeLA 12 guard_none sz27 rfl rfl rfl rfl rfl rfl ?_
      refine WL.y0' guard_none (Y0.assign rfl) rfl ?_
      refine WL.nil ?_
      refine WE.then ?_
      refine WC.seq ?_
      refine WC.region ?_
      refine WL.y0' guard_none (Y0.loadLA 9 ag27 rfl rfl rfl) rfl ?_
      refine WL.y0' guard_none (Y0.loadLA 10 ag27 rfl rfl rfl) rfl ?_
      refine WL.call0 guard_none rfl (YC.of E13 rfl) (mMulT _ _ (by assumption) (by assumption)) rfl (trivial) ?_
      refine WL.y0' guard_none (Y0.move rfl) rfl ?_
      refine WL.y0' guard_none (Y0.extract rfl rfl) rfl ?_
      refine WL.y0' guard_none (Y0.extract rfl rfl) rfl ?_
      refine WL.alloc 14 guard_none z27 rfl (fun b14 => ?_)
      refine WL.storeLA 14 guard_none sz27 rfl rfl rfl rfl rfl rfl ?_
      refine WL.y0' guard_none (Y0.assign rfl) rfl ?_
      refine WL.nil ?_
      refine WE.then ?_
      refine WC.seq ?_
      refine WC.seq ?_
      refine WC.region ?_
      refine WL.y0' guard_none (Y0.move rfl) rfl ?_
      refine WL.caseY0 guard_none (Y0.neq rfl rfl) rfl (fun h93 => ?_) (fun h93 => ?_)
      · skip
        refine WL.y0' guard_none (Y0.move rfl) rfl ?_
        refine WL.skip (guard_noF rfl rfl) rfl ?_
        refine WL.skip (guard_noF rfl rfl) rfl ?_
        refine WL.y0' guard_none (Y0.pickT rfl rfl) rfl ?_
        refine WL.nil ?_
        refine WE.then ?_
        refine WC.condT rfl ?_
        refine WC.seq ?_
        refine WC.region ?_
        refine WL.y0' guard_none (Y0.move rfl) rfl ?_
        refine WL.y0' guard_none (Y0.assign rfl) rfl ?_
        refine WL.nil ?_
        refine WE.then ?_
        refine WC.ret ?_
        refine WE.thenRet ?_
        refine WE.ret1 rfl rfl ?_
        rfl
      · skip
        refine WL.y0' guard_none (Y0.move rfl) rfl ?_
        refine WL.y0' (guard_yes rfl rfl) (Y0.move rfl) rfl ?_
        refine WL.caseY0 (guard_yes rfl rfl) (Y0.neq rfl rfl) rfl (fun h96 => ?_) (fun h96 => ?_)
        · skip
          refine WL.y0' guard_none (Y0.pickF rfl rfl) rfl ?_
          refine WL.nil ?_
          refine WE.then ?_
          refine WC.condT rfl ?_
          refine WC.seq ?_
          refine WC.region ?_
          refine WL.y0' guard_none (Y0.move rfl) rfl ?_
          refine WL.y0' guard_none (Y0.assign rfl) rfl ?_
          refine WL.nil ?_
          refine WE.then ?_
          refine WC.ret ?_
          refine WE.thenRet ?_
          refine WE.ret1 rfl rfl ?_
          rfl
        · skip
          refine WL.y0' guard_none (Y0.pickF rfl rfl) rfl ?_
          refine WL.nil ?_
          refine WE.then ?_
          refine WC.condF rfl ?_
          refine WC.skip ?_
          refine WE.then ?_
          refine WC.seq ?_
          refine WC.region ?_
          refine WL.y0' guard_none (Y0.move rfl) rfl ?_
          refine WL.y0' guard_none (Y0.move rfl) rfl ?_
          refine WL.y0' (guard_yes rfl rfl) (Y0.loadLA 12 ag27 rfl rfl rfl) rfl ?_
          refine WL.y0' (guard_yes rfl rfl) (Y0.loadLA 14 ag27 rfl rfl rfl) rfl ?_
          refine WL.call0 (guard_yes rfl rfl) rfl (YC.of E19 rfl) (mCmp _ _) rfl (trivial) ?_
          refine WL.y0' (guard_yes rfl rfl) (Y0.move rfl) rfl ?_
          refine WL.y0' (guard_yes rfl rfl) (Y0.eq (Y0.eql rfl rfl) (congrArg Value.bool (decide_eq_true (cmp_mul h93 h96)))) rfl ?_
          refine WL.y0' guard_none (Y0.pickT rfl rfl) rfl ?_
          refine WL.y0' guard_none (Y0.assign rfl) rfl ?_
          refine WL.nil ?_
          refine WE.then ?_
          refine WC.ret ?_
          refine WE.ret1 rfl rfl ?_
          rfl
  · skip
    refine WL.y0' guard_none (Y0.move rfl) rfl ?_
    refine WL.skip (guard_noT rfl rfl) rfl ?_
    refine WL.skip (guard_noT rfl rfl) rfl ?_
    refine WL.skip (guard_noT rfl rfl) rfl ?_
    refine WL.skip (guard_noT rfl rfl) rfl ?_
    refine WL.y0' guard_none (Y0.pickF rfl rfl) rfl ?_
    refine WL.y0' guard_none (Y0.move rfl) rfl ?_
    refine WL.skip (guard_noT rfl rfl) rfl ?_
    refine WL.skip (guard_noT rfl rfl) rfl ?_
    refine WL.skip (guard_noT rfl rfl) rfl ?_
    refine WL.skip (guard_noT rfl rfl) rfl ?_
    refine WL.y0' guard_none (Y0.pickF rfl rfl) rfl ?_
    refine WL.nil ?_
    refine WE.then ?_
    refine WC.condF rfl ?_
    refine WC.skip ?_
    refine WE.then ?_
    refine WC.seq ?_
    refine WC.region ?_
    refine WL.y0' guard_none (Y0.loadLA 8 ag27 rfl rfl rfl) rfl ?_
    refine WL.y0' guard_none (Y0.loadLA 10 ag27 rfl rfl rfl) rfl ?_
    refine WL.call0 guard_none rfl (YC.of E13 rfl) (mMulT _ _ (by assumption) (by assumption)) rfl (trivial) ?_
    refine WL.y0' guard_none (Y0.move rfl) rfl ?_
    refine WL.y0' guard_none (Y0.extract rfl rfl) rfl ?_
    refine WL.y0' guard_none (Y0.extract rfl rfl) rfl ?_
    refine WL.alloc 12 guard_none z27 rfl (fun b12 => ?_)
    refine WL.storeLA 12 guard_none sz27 rfl rfl rfl rfl rfl rfl ?_
    refine WL.y0' guard_none (Y0.assign rfl) rfl ?_
    refine WL.nil ?_
    refine WE.then ?_
    refine WC.seq ?_
    refine WC.region ?_
    refine WL.y0' guard_none (Y0.loadLA 9 ag27 rfl rfl rfl) rfl ?_
    refine WL.y0' guard_none (Y0.loadLA 10 ag27 rfl rfl rfl) rfl ?_
    refine WL.call0 guard_none rfl (YC.of E13 rfl) (mMulT _ _ (by assumption) (by assumption)) rfl (trivial) ?_
    refine WL.y0' guard_none (Y0.move rfl) rfl ?_
    refine WL.y0' guard_none (Y0.extract rfl rfl) rfl ?_
    refine WL.y0' guard_none (Y0.extract rfl rfl) rfl ?_
    refine WL.alloc 14 guard_none z27 rfl (fun b14 => ?_)
    refine WL.storeLA 14 guard_none sz27 rfl rfl rfl rfl rfl rfl ?_
    refine WL.y0' guard_none (Y0.assign rfl) rfl ?_
    refine WL.nil ?_
    refine WE.then ?_
    refine WC.seq ?_
    refine WC.seq ?_
    refine WC.region ?_
    refine WL.y0' guard_none (Y0.move rfl) rfl ?_
    refine WL.caseY0 guard_none (Y0.neq rfl rfl) rfl (fun h93 => ?_) (fun h93 => ?_)
    · skip
      refine WL.y0' guard_none (Y0.move rfl) rfl ?_
      refine WL.skip (guard_noF rfl rfl) rfl ?_
      refine WL.skip (guard_noF rfl rfl) rfl ?_
      refine WL.y0' guard_none (Y0.pickT rfl rfl) rfl ?_
      refine WL.nil ?_
      refine WE.then ?_
      refine WC.condT rfl ?_
      refine WC.seq ?_
      refine WC.region ?_
      refine WL.y0' guard_none (Y0.move rfl) rfl ?_
      refine WL.y0' guard_none (Y0.assign rfl) rfl ?_
      refine WL.nil ?_
      refine WE.then ?_
      refine WC.ret ?_
      refine WE.thenRet ?_
      refine WE.ret1 rfl rfl ?_
      rfl
    · skip
      refine WL.y0' guard_none (Y0.move rfl) rfl ?_
      refine WL.y0' (guard_yes rfl rfl) (Y0.move rfl) rfl ?_
      refine WL.caseY0 (guard_yes rfl rfl) (Y0.neq rfl rfl) rfl (fun h96 => ?_) (fun h96 => ?_)
      · skip
        refine WL.y0' guard_none (Y0.pickF rfl rfl) rfl ?_
        refine WL.nil ?_
        refine WE.then ?_
        refine WC.condT rfl ?_
        refine WC.seq ?_
        refine WC.region ?_
        refine WL.y0' guard_none (Y0.move rfl) rfl ?_
        refine WL.y0' guard_none (Y0.assign rfl) rfl ?_
        refine WL.nil ?_
        refine WE.then ?_
        refine WC.ret ?_
        refine WE.thenRet ?_
        refine WE.ret1 rfl rfl ?_
        rfl
      · skip
        refine WL.y0' guard_none (Y0.pickF rfl rfl) rfl ?_
        refine WL.nil ?_
        refine WE.then ?_
        refine WC.condF rfl ?_
        refine WC.skip ?_
        refine WE.then ?_
        refine WC.seq ?_
        refine WC.region ?_
        refine WL.y0' guard_none (Y0.move rfl) rfl ?_
        refine WL.y0' guard_none (Y0.move rfl) rfl ?_
        refine WL.y0' (guard_yes rfl rfl) (Y0.loadLA 12 ag27 rfl rfl rfl) rfl ?_
        refine WL.y0' (guard_yes rfl rfl) (Y0.loadLA 14 ag27 rfl rfl rfl) rfl ?_
        refine WL.call0 (guard_yes rfl rfl) rfl (YC.of E19 rfl) (mCmp _ _) rfl (trivial) ?_
        refine WL.y0' (guard_yes rfl rfl) (Y0.move rfl) rfl ?_
        refine WL.y0' (guard_yes rfl rfl) (Y0.eq (Y0.eql rfl rfl) (congrArg Value.bool (decide_eq_true (cmp_mul h93 h96)))) rfl ?_
        refine WL.y0' guard_none (Y0.pickT rfl rfl) rfl ?_
        refine WL.y0' guard_none (Y0.assign rfl) rfl ?_
        refine WL.nil ?_
        refine WE.then ?_
        refine WC.ret ?_
        refine WE.ret1 rfl rfl ?_
        rfl

theorem cMonomialDivides (x y z : M) (hx : Ok x) (hy : Ok y) (hz : Ok z) : Ctr Try.prog 6 #[.agg (vecU x), .agg (vecU y), .agg (vecU z)] (fun G => True) (fun G r => r = .bool true) := by
  refine Ctr.enter (args := [_, _, _]) (N := 99) Try.func6 rfl rfl rfl (fun w0 G0 hL0 hpre => ?_)
  have sx : Sm x := hx.sm
  have sy : Sm y := hy.sm
  have sz : Sm z := hz.sm
  have hq := ok_quo hz hx
  have sq := hq.sm
  refine WC.seq ?_
  refine WC.region ?_
  refine WL.box 3 guard_none rfl rfl (fun b3 => ?_)
  refine WL.box 4 guard_none rfl rfl (fun b4 => ?_)
  refine WL.box 5 guard_none rfl rfl (fun b5 => ?_)
  refine WL.y0' guard_none (Y0.assign rfl) rfl ?_
  refine WL.nil ?_
  refine WE.then ?_
  refine WC.seq ?_
  refine WC.region ?_
  refine WL.call0 guard_none rfl (YC.of E11 rfl) (lsanity) rfl (trivial) ?_
  refine WL.y0' guard_none (Y0.assign rfl) rfl ?_
  refine WL.nil ?_
  refine WE.then ?_
  refine WC.seq ?_
  refine WC.seq ?_
  refine WC.region ?_
  refine WL.y0' guard_none (Y0.move rfl) rfl ?_
  refine WL.y0' guard_none (Y0.not rfl) rfl ?_
  refine WL.nil ?_
  refine WE.then ?_
  refine WC.condF rfl ?_
  refine WC.skip ?_
  refine WE.then ?_
  refine WC.seq ?_
  refine WC.region ?_
  refine WL.y0' guard_none (Y0.loadLA 3 ag24 rfl rfl rfl) rfl ?_
  refine WL.call0 guard_none rfl (YC.of E12 rfl) (rMade _ (by assumption)) rfl (trivial) ?_
  refine WL.alloc 8 guard_none z27 rfl (fun b8 => ?_)
  refine WL.storeLA 8 guard_none sz27 rfl rfl rfl rfl rfl rfl ?_
  refine WL.nil ?_
  refine WE.then ?_
  refine WC.seq ?_
  refine WC.drawn [false, false, false, false, false] mix (by kernel_rfl) (fun hb => ?_)
  refine Chain.y0 guard_none (fun _ hle => Y0.loadLA 8 ag27 rfl rfl rfl) ?_
  refine Chain.y0 guard_none (fun _ hle => Y0.loadLA 4 ag24 rfl rfl rfl) ?_
  refine Chain.call0 guard_none (fun _ => YC.of E12 rfl) (rMade _ (by assumption)) rfl (fun G' hle => trivial) ?_
  refine Chain.call0 guard_none (fun _ => YC.of E22 rfl) (rLcm _ _) rfl (fun G' hle => trivial) ?_
  refine Chain.alloc (fun _ => guard_none) z27 ?_
  refine Chain.tail1 hb (fun b9 => ?_)
  refine WL.storeLA 9 guard_none sz27 rfl rfl rfl rfl rfl rfl ?_
  refine WL.nil ?_
  refine WE.nx ?_
  refine WE.then ?_
  refine WC.seq ?_
  refine WC.region ?_
  refine WL.y0' guard_none (Y0.loadLA 5 ag24 rfl rfl rfl) rfl ?_
  refine WL.call0 guard_none rfl (YC.of E12 rfl) (rMade _ (by assumption)) rfl (trivial) ?_
  refine WL.alloc 10 guard_none z27 rfl (fun b10 => ?_)
  refine WL.storeLA 10 guard_none sz27 rfl rfl rfl rfl rfl rfl ?_
  refine WL.nil ?_
  refine WE.then ?_
  refine WC.seq ?_
  refine WC.seq ?_
  refine WC.drawn [false, false, false, false, false, false, false, false, false, false, false, false, false, false, false, false, false, false, false, false, false, false, false, false, false] mix (by kernel_rfl) (fun hb => ?_)
  refine Chain.y0 guard_none (fun _ hle => Y0.loadLA 8 ag27 rfl rfl rfl) ?_
  refine Chain.y0 guard_none (fun _ hle => Y0.loadLA 9 ag27 rfl rfl rfl) ?_
  refine Chain.call0 guard_none (fun _ => YC.of E17 rfl) (mDivides _ _) rfl (fun G' hle => trivial) ?_
  refine Chain.y0 guard_none (fun _ hle => Y0.eq (Y0.notD rfl) (congrArg Value.bool (decide_eq_false (fun h => h (dvd_max_l _ _))))) ?_
  refine Chain.y0 guard_none (fun _ hle => Y0.move rfl) ?_
  refine Chain.y0 (guard_yes rfl rfl) (fun _ hle => Y0.loadLA 8 ag27 rfl rfl rfl) ?_
  refine Chain.y0 (guard_yes rfl rfl) (fun _ hle => Y0.loadLA 8 ag27 rfl rfl rfl) ?_
  refine Chain.call0 (guard_yes rfl rfl) (fun _ => YC.of E17 rfl) (mDivides _ _) rfl (fun G' hle => trivial) ?_
  refine Chain.y0 (guard_yes rfl rfl) (fun _ hle => Y0.eq (Y0.notD rfl) (congrArg Value.bool (decide_eq_false (fun h => h (dvd_refl _))))) ?_
  refine Chain.y0 guard_none (fun _ hle => Y0.pickF rfl rfl) ?_
  refine Chain.y0 guard_none (fun _ hle => Y0.move rfl) ?_
  refine Chain.y0 (guard_yes rfl rfl) (fun _ hle => Y0.buildM0 bz27) ?_
  refine Chain.y0 (guard_yes rfl rfl) (fun _ hle => Y0.loadLA 10 ag27 rfl rfl rfl) ?_
  refine Chain.call0 (guard_yes rfl rfl) (fun _ => YC.of E17 rfl) (mDivides _ _) rfl (fun G' hle => trivial) ?_
  refine Chain.y0 (guard_yes rfl rfl) (fun _ hle => Y0.eq (Y0.notD rfl) (congrArg Value.bool (decide_eq_false (fun h => h (zero_dvd hz))))) ?_
  refine Chain.y0 guard_none (fun _ hle => Y0.pickF rfl rfl) ?_
  refine Chain.y0 guard_none (fun _ hle => Y0.move rfl) ?_
  refine Chain.y0 (guard_yes rfl rfl) (fun _ hle => Y0.loadLA 9 ag27 rfl rfl rfl) ?_
  refine Chain.y0 (guard_yes rfl rfl) (fun _ hle => Y0.loadLA 8 ag27 rfl rfl rfl) ?_
  refine Chain.call0 (guard_yes rfl rfl) (fun _ => YC.of E17 rfl) (mDivides _ _) rfl (fun G' hle => trivial) ?_
  refine Chain.y0 (guard_yes rfl rfl) (fun _ hle => Y0.loadLA 8 ag27 rfl rfl rfl) ?_
  refine Chain.y0 (guard_yes rfl rfl) (fun _ hle => Y0.loadLA 9 ag27 rfl rfl rfl) ?_
  refine Chain.y0 (guard_yes rfl rfl) (fun _ hle => Y0.eqlM Try.underlying27 Try.underlying3 sc3 sz3 eg27 rfl rfl) ?_
  refine Chain.y0 (guard_yes rfl rfl) (fun _ hle => Y0.eq (Y0.neqB Try.underlying4 rfl rfl) (congrArg Value.bool (decide_eq_false (fun h => h (decide_eq_decide.2 max_dvd_self))))) ?_
  refine Chain.y0 guard_none (fun _ hle => Y0.pickF rfl rfl) ?_
  refine Chain.tail0 hb ?_
  refine WL.nil ?_
  refine WE.nx ?_
  refine WE.then ?_
  refine WC.condF rfl ?_
  refine WC.skip ?_
  refine WE.then ?_
  refine WC.seq ?_
  refine WC.seq ?_
  refine WC.region ?_
  refine WL.y0' guard_none (Y0.loadLA 9 ag27 rfl rfl rfl) rfl ?_
  refine WL.y0' guard_none (Y0.loadLA 10 ag27 rfl rfl rfl) rfl ?_
  refine WL.call0 guard_none rfl (YC.of E17 rfl) (mDivides _ _) rfl (trivial) ?_
  refine WL.caseY0 guard_none (Y0.move rfl) rfl (fun h54 => ?_) (fun h54 => ?_)
  · skip
    refine WL.y0' (guard_yes rfl rfl) (Y0.loadLA 8 ag27 rfl rfl rfl) rfl ?_
    refine WL.y0' (guard_yes rfl rfl) (Y0.loadLA 10 ag27 rfl rfl rfl) rfl ?_
    refine WL.call0 (guard_yes rfl rfl) rfl (YC.of E17 rfl) (mDivides _ _) rfl (trivial) ?_
    refine WL.y0' (guard_yes rfl rfl) (Y0.eq (Y0.notD rfl) (congrArg Value.bool (decide_eq_false (fun h => h (dvd_trans (dvd_max_l _ _) h54))))) rfl ?_
    refine WL.y0' guard_none (Y0.pickT rfl rfl) rfl ?_
    refine WL.nil ?_
    refine WE.then ?_
    refine WC.condF rfl ?_
    refine WC.skip ?_
    refine WE.then ?_
    refine WC.seq ?_
    refine WC.region ?_
    refine WL.y0' guard_none (Y0.loadLA 10 ag27 rfl rfl rfl) rfl ?_
    refine WL.y0' guard_none (Y0.loadLA 8 ag27 rfl rfl rfl) rfl ?_
    refine WL.call0 guard_none rfl (YC.of E15 rfl) (mQuoT _ _ (by assumption) (by assumption)) rfl (trivial) ?_
    refine WL.y0' guard_none (Y0.move rfl) rfl ?_
    refine WL.y0' guard_none (Y0.extract rfl rfl) rfl ?_
    refine WL.y0' guard_none (Y0.extract rfl rfl) rfl ?_
    refine WL.alloc 11 guard_none z27 rfl (fun b11 => ?_)
    refine WL.storeLA 11 guard_none sz27 rfl rfl rfl rfl rfl rfl ?_
    refine WL.y0' guard_none (Y0.assign rfl) rfl ?_
    refine WL.nil ?_
    refine WE.then ?_
    refine WC.seq ?_
    refine WC.seq ?_
    refine WC.region ?_
    refine WL.y0' guard_none (Y0.move rfl) rfl ?_
    refine WL.y0' guard_none (Y0.loadLA 8 ag27 rfl rfl rfl) rfl ?_
    refine WL.y0' guard_none (Y0.loadLA 10 ag27 rfl rfl rfl) rfl ?_
    refine WL.call0 guard_none rfl (YC.of E17 rfl) (mDivides _ _) rfl (trivial) ?_
    refine WL.y0' guard_none (Y0.eq (Y0.neqB Try.underlying4 rfl rfl) (congrArg Value.bool (decide_eq_false (fun h => h rfl)))) rfl ?_
    refine WL.nil ?_
    refine WE.then ?_
    refine WC.condF rfl ?_
    refine WC.skip ?_
    refine WE.then ?_
    refine WC.seq ?_
    refine WC.seq ?_
    refine WC.region ?_
    refine WL.y0' guard_none (Y0.move rfl) rfl ?_
    refine WL.caseY0 guard_none (Y0.notD rfl) rfl (fun h72 => ?_) (fun h72 => ?_)
    · skip
      refine WL.nil ?_
      refine WE.then ?_
      refine WC.condT rfl ?_
      refine WC.seq ?_
      refine WC.region ?_
      refine WL.y0' guard_none (Y0.move rfl) rfl ?_
      refine WL.y0' guard_none (Y0.move rfl) rfl ?_
      refine WL.y0' (guard_yes rfl rfl) (Y0.loadLA 11 ag27 rfl rfl rfl) rfl ?_
      refine WL.y0' (guard_yes rfl rfl) (Y0.buildM0 bz27) rfl ?_
      refine WL.y0' (guard_yes rfl rfl) (Y0.eq (Y0.eqlM Try.underlying27 Try.underlying3 sc3 sz3 eg27 rfl rfl) (congrArg Value.bool (decide_eq_true (quo_no h72)))) rfl ?_
      refine WL.y0' guard_none (Y0.pickT rfl rfl) rfl ?_
      refine WL.y0' guard_none (Y0.assign rfl) rfl ?_
      refine WL.nil ?_
      refine WE.then ?_
      refine WC.ret ?_
      refine WE.thenRet ?_
      refine WE.ret1 rfl rfl ?_
      rfl
    · skip
      refine WL.nil ?_
      refine WE.then ?_
      refine WC.condF rfl ?_
      refine WC.skip ?_
      refine WE.then ?_
      refine WC.seq ?_
      refine WC.region ?_
      refine WL.y0' guard_none (Y0.loadLA 11 ag27 rfl rfl rfl) rfl ?_
      refine WL.y0' guard_none (Y0.loadLA 8 ag27 rfl rfl rfl) rfl ?_
      refine WL.call0 guard_none rfl (YC.of E13 rfl) (mMulT _ _ (by assumption) (by assumption)) rfl (trivial) ?_
      refine WL.y0' guard_none (Y0.move rfl) rfl ?_
      refine WL.y0' guard_none (Y0.extract rfl rfl) rfl ?_
      refine WL.y0' guard_none (Y0.extract rfl rfl) rfl ?_
      refine WL.alloc 13 guard_none z27 rfl (fun b13 => ?_)
      refine WL.storeLA 13 guard_none sz27 rfl rfl rfl rfl rfl rfl ?_
      refine WL.y0' guard_none (Y0.assign rfl) rfl ?_
      refine WL.nil ?_
      refine WE.then ?_
      refine WC.seq ?_
      refine WC.region ?_
      refine WL.y0' guard_none (Y0.move rfl) rfl ?_
      refine WL.y0' guard_none (Y0.move rfl) rfl ?_
      refine WL.y0' (guard_yes rfl rfl) (Y0.move rfl) rfl ?_
      refine WL.y0' (guard_yes rfl rfl) (Y0.eq (Y0.eql rfl rfl) (congrArg Value.bool (decide_eq_true (mulE_quo hz (Classical.not_not.1 h72))))) rfl ?_
      refine WL.y0' guard_none (Y0.pickT rfl rfl) rfl ?_
      refine WL.y0' guard_none (Y0.move rfl) rfl ?_
      refine WL.y0' (guard_yes rfl rfl) (Y0.loadLA 13 ag27 rfl rfl rfl) rfl ?_
      refine WL.y0' (guard_yes rfl rfl) (Y0.loadLA 10 ag27 rfl rfl rfl) rfl ?_
      refine WL.y0' (guard_yes rfl rfl) (Y0.eq (Y0.eqlM Try.underlying27 Try.underlying3 sc3 sz3 eg27 rfl rfl) (congrArg Value.bool (decide_eq_true (mul_quo hz (Classical.not_not.1 h72))))) rfl ?_
      refine WL.y0' guard_none (Y0.pickT rfl rfl) rfl ?_
      refine WL.y0' guard_none (Y0.move rfl) rfl ?_
      refine WL.y0' (guard_yes rfl rfl) (Y0.loadLA 11 ag27 rfl rfl rfl) rfl ?_
      refine WL.call0 (guard_yes rfl rfl) rfl (YC.of E31 rfl) ((rValid _).eqvB (b' := true) (decide_eq_true (by assumption))) rfl (trivial) ?_
      refine WL.y0' guard_none (Y0.pickT rfl rfl) rfl ?_
      refine WL.y0' guard_none (Y0.assign rfl) rfl ?_
      refine WL.nil ?_
      refine WE.then ?_
      refine WC.ret ?_
      refine WE.ret1 rfl rfl ?_
      rfl
  · skip
    refine WL.skip (guard_noT rfl rfl) rfl ?_
    refine WL.skip (guard_noT rfl rfl) rfl ?_
    refine WL.skip (guard_noT rfl rfl) rfl ?_
    refine WL.skip (guard_noT rfl rfl) rfl ?_
    refine WL.y0' guard_none (Y0.pickF rfl rfl) rfl ?_
    refine WL.nil ?_
    refine WE.then ?_
    refine WC.condF rfl ?_
    refine WC.skip ?_
    refine WE.then ?_
    refine WC.seq ?_
    refine WC.region ?_
    refine WL.y0' guard_none (Y0.loadLA 10 ag27 rfl rfl rfl) rfl ?_
    refine WL.y0' guard_none (Y0.loadLA 8 ag27 rfl rfl rfl) rfl ?_
    refine WL.call0 guard_none rfl (YC.of E15 rfl) (mQuoT _ _ (by assumption) (by assumption)) rfl (trivial) ?_
    refine WL.y0' guard_none (Y0.move rfl) rfl ?_
    refine WL.y0' guard_none (Y0.extract rfl rfl) rfl ?_
    refine WL.y0' guard_none (Y0.extract rfl rfl) rfl ?_
    refine WL.alloc 11 guard_none z27 rfl (fun b11 => ?_)
    refine WL.storeLA 11 guard_none sz27 rfl rfl rfl rfl rfl rfl ?_
    refine WL.y0' guard_none (Y0.assign rfl) rfl ?_
    refine WL.nil ?_
    refine WE.then ?_
    refine WC.seq ?_
    refine WC.seq ?_
    refine WC.region ?_
    refine WL.y0' guard_none (Y0.move rfl) rfl ?_
    refine WL.y0' guard_none (Y0.loadLA 8 ag27 rfl rfl rfl) rfl ?_
    refine WL.y0' guard_none (Y0.loadLA 10 ag27 rfl rfl rfl) rfl ?_
    refine WL.call0 guard_none rfl (YC.of E17 rfl) (mDivides _ _) rfl (trivial) ?_
    refine WL.y0' guard_none (Y0.eq (Y0.neqB Try.underlying4 rfl rfl) (congrArg Value.bool (decide_eq_false (fun h => h rfl)))) rfl ?_
    refine WL.nil ?_
    refine WE.then ?_
    refine WC.condF rfl ?_
    refine WC.skip ?_
    refine WE.then ?_
    refine WC.seq ?_
    refine WC.seq ?_
    refine WC.region ?_
    refine WL.y0' guard_none (Y0.move rfl) rfl ?_
    refine WL.caseY0 guard_none (Y0.notD rfl) rfl (fun h72 => ?_) (fun h72 => ?_)
    · skip
      refine WL.nil ?_
      refine WE.then ?_
      refine WC.condT rfl ?_
      refine WC.seq ?_
      refine WC.region ?_
      refine WL.y0' guard_none (Y0.move rfl) rfl ?_
      refine WL.y0' guard_none (Y0.move rfl) rfl ?_
      refine WL.y0' (guard_yes rfl rfl) (Y0.loadLA 11 ag27 rfl rfl rfl) rfl ?_
      refine WL.y0' (guard_yes rfl rfl) (Y0.buildM0 bz27) rfl ?_
      refine WL.y0' (guard_yes rfl rfl) (Y0.eq (Y0.eqlM Try.underlying27 Try.underlying3 sc3 sz3 eg27 rfl rfl) (congrArg Value.bool (decide_eq_true (quo_no h72)))) rfl ?_
      refine WL.y0' guard_none (Y0.pickT rfl rfl) rfl ?_
      refine WL.y0' guard_none (Y0.assign rfl) rfl ?_
      refine WL.nil ?_
      refine WE.then ?_
      refine WC.ret ?_
      refine WE.thenRet ?_
      refine WE.ret1 rfl rfl ?_
      rfl
    · skip
      refine WL.nil ?_
      refine WE.then ?_
      refine WC.condF rfl ?_
      refine WC.skip ?_
      refine WE.then ?_
      refine WC.seq ?_
      refine WC.region ?_
      refine WL.y0' guard_none (Y0.loadLA 11 ag27 rfl rfl rfl) rfl ?_
      refine WL.y0' guard_none (Y0.loadLA 8 ag27 rfl rfl rfl) rfl ?_
      refine WL.call0 guard_none rfl (YC.of E13 rfl) (mMulT _ _ (by assumption) (by assumption)) rfl (trivial) ?_
      refine WL.y0' guard_none (Y0.move rfl) rfl ?_
      refine WL.y0' guard_none (Y0.extract rfl rfl) rfl ?_
      refine WL.y0' guard_none (Y0.extract rfl rfl) rfl ?_
      refine WL.alloc 13 guard_none z27 rfl (fun b13 => ?_)
      refine WL.storeLA 13 guard_none sz27 rfl rfl rfl rfl rfl rfl ?_
      refine WL.y0' guard_none (Y0.assign rfl) rfl ?_
      refine WL.nil ?_
      refine WE.then ?_
      refine WC.seq ?_
      refine WC.region ?_
      refine WL.y0' guard_none (Y0.move rfl) rfl ?_
      refine WL.y0' guard_none (Y0.move rfl) rfl ?_
      refine WL.y0' (guard_yes rfl rfl) (Y0.move rfl) rfl ?_
      refine WL.y0' (guard_yes rfl rfl) (Y0.eq (Y0.eql rfl rfl) (congrArg Value.bool (decide_eq_true (mulE_quo hz (Classical.not_not.1 h72))))) rfl ?_
      refine WL.y0' guard_none (Y0.pickT rfl rfl) rfl ?_
      refine WL.y0' guard_none (Y0.move rfl) rfl ?_
      refine WL.y0' (guard_yes rfl rfl) (Y0.loadLA 13 ag27 rfl rfl rfl) rfl ?_
      refine WL.y0' (guard_yes rfl rfl) (Y0.loadLA 10 ag27 rfl rfl rfl) rfl ?_
      refine WL.y0' (guard_yes rfl rfl) (Y0.eq (Y0.eqlM Try.underlying27 Try.underlying3 sc3 sz3 eg27 rfl rfl) (congrArg Value.bool (decide_eq_true (mul_quo hz (Classical.not_not.1 h72))))) rfl ?_
      refine WL.y0' guard_none (Y0.pickT rfl rfl) rfl ?_
      refine WL.y0' guard_none (Y0.move rfl) rfl ?_
      refine WL.y0' (guard_yes rfl rfl) (Y0.loadLA 11 ag27 rfl rfl rfl) rfl ?_
      refine WL.call0 (guard_yes rfl rfl) rfl (YC.of E31 rfl) ((rValid _).eqvB (b' := true) (decide_eq_true (by assumption))) rfl (trivial) ?_
      refine WL.y0' guard_none (Y0.pickT rfl rfl) rfl ?_
      refine WL.y0' guard_none (Y0.assign rfl) rfl ?_
      refine WL.nil ?_
      refine WE.then ?_
      refine WC.ret ?_
      refine WE.ret1 rfl rfl ?_
      rfl

theorem cMonomialProducts (x y z : M) (hx : Ok x) (hy : Ok y) (hz : Ok z) : Ctr Try.prog 5 #[.agg (vecU x), .agg (vecU y), .agg (vecU z)] (fun G => True) (fun G r => r = .bool true) := by
  refine Ctr.enter (args := [_, _, _]) (N := 185) Try.func5 rfl rfl rfl (fun w0 G0 hL0 hpre => ?_)
  have sx : Sm x := hx.sm
  have sy : Sm y := hy.sm
  have sz : Sm z := hz.sm
  have sxy : Sm (mulM x y) := ok_mul.sm
  have syz : Sm (mulM y z) := ok_mul.sm
  have sz0 : Sm zeroM := ok_zero.sm
  have d1 := degM_ok hx
  have d2 := degM_ok hy
  have hr := mulE_range x y
  have hr2 := mulE_range y z
  refine WC.seq ?_
  refine WC.region ?_
  refine WL.box 3 guard_none rfl rfl (fun b3 => ?_)
  refine WL.box 4 guard_none rfl rfl (fun b4 => ?_)
  refine WL.box 5 guard_none rfl rfl (fun b5 => ?_)
  refine WL.y0' guard_none (Y0.assign rfl) rfl ?_
  refine WL.nil ?_
  refine WE.then ?_
  refine WC.seq ?_
  refine WC.region ?_
  refine WL.call0 guard_none rfl (YC.of E11 rfl) (lsanity) rfl (trivial) ?_
  refine WL.y0' guard_none (Y0.assign rfl) rfl ?_
  refine WL.nil ?_
  refine WE.then ?_
  refine WC.seq ?_
  refine WC.seq ?_
  refine WC.region ?_
  refine WL.y0' guard_none (Y0.move rfl) rfl ?_
  refine WL.y0' guard_none (Y0.not rfl) rfl ?_
  refine WL.nil ?_
  refine WE.then ?_
  refine WC.condF rfl ?_
  refine WC.skip ?_
  refine WE.then ?_
  refine WC.seq ?_
  refine WC.region ?_
  refine WL.y0' guard_none (Y0.loadLA 3 ag24 rfl rfl rfl) rfl ?_
  refine WL.call0 guard_none rfl (YC.of E12 rfl) (rMade _ (by assumption)) rfl (trivial) ?_
  refine WL.alloc 8 guard_none z27 rfl (fun b8 => ?_)
  refine WL.storeLA 8 guard_none sz27 rfl rfl rfl rfl rfl rfl ?_
  refine WL.nil ?_
  refine WE.then ?_
  refine WC.seq ?_
  refine WC.region ?_
  refine WL.y0' guard_none (Y0.loadLA 4 ag24 rfl rfl rfl) rfl ?_
  refine WL.call0 guard_none rfl (YC.of E12 rfl) (rMade _ (by assumption)) rfl (trivial) ?_
  refine WL.alloc 9 guard_none z27 rfl (fun b9 => ?_)
  refine WL.storeLA 9 guard_none sz27 rfl rfl rfl rfl rfl rfl ?_
  refine WL.nil ?_
  refine WE.then ?_
  refine WC.seq ?_
  refine WC.region ?_
  refine WL.y0' guard_none (Y0.loadLA 5 ag24 rfl rfl rfl) rfl ?_
  refine WL.call0 guard_none rfl (YC.of E12 rfl) (rMade _ (by assumption)) rfl (trivial) ?_
  refine WL.alloc 10 guard_none z27 rfl (fun b10 => ?_)
  refine WL.storeLA 10 guard_none sz27 rfl rfl rfl rfl rfl rfl ?_
  refine WL.nil ?_
  refine WE.then ?_
  refine WC.seq ?_
  refine WC.region ?_
  refine WL.y0' guard_none (Y0.loadLA 8 ag27 rfl rfl rfl) rfl ?_
  refine WL.y0' guard_none (Y0.loadLA 9 ag27 rfl rfl rfl) rfl ?_
  refine WL.call0 guard_none rfl (YC.of E13 rfl) (mMulT _ _ (by assumption) (by assumption)) rfl (trivial) ?_
  refine WL.y0' guard_none (Y0.move rfl) rfl ?_
  refine WL.y0' guard_none (Y0.extract rfl rfl) rfl ?_
  refine WL.y0' guard_none (Y0.extract rfl rfl) rfl ?_
  refine WL.alloc 11 guard_none z27 rfl (fun b11 => ?_)
  refine WL.storeLA 11 guard_none sz27 rfl rfl rfl rfl rfl rfl ?_
  refine WL.y0' guard_none (Y0.assign rfl) rfl ?_
  refine WL.nil ?_
  refine WE.then ?_
  refine WC.seq ?_
  refine WC.region ?_
  refine WL.y0' guard_none (Y0.loadLA 9 ag27 rfl rfl rfl) rfl ?_
  refine WL.y0' guard_none (Y0.loadLA 8 ag27 rfl rfl rfl) rfl ?_
  refine WL.call0 guard_none rfl (YC.of E13 rfl) (mMulT _ _ (by assumption) (by assumption)) rfl (trivial) ?_
  refine WL.y0' guard_none (Y0.move rfl) rfl ?_
  refine WL.y0' guard_none (Y0.extract rfl rfl) rfl ?_
  refine WL.y0' guard_none (Y0.extract rfl rfl) rfl ?_
  refine WL.alloc 13 guard_none z27 rfl (fun b13 => ?_)
  refine WL.storeLA 13 guard_none sz27 rfl rfl rfl rfl rfl rfl ?_
  refine WL.y0' guard_none (Y0.assign rfl) rfl ?_
  refine WL.nil ?_
  refine WE.then ?_
  refine WC.seq ?_
  refine WC.region ?_
  refine WL.y0' guard_none (Y0.assign rfl) rfl ?_
  refine WL.nil ?_
  refine WE.then ?_
  refine WC.seq ?_
  refine WC.seq ?_
  refine WC.region ?_
  refine WL.y0' guard_none (Y0.assign rfl) rfl ?_
  refine WL.nil ?_
  refine WE.then ?_
  refine WC.block ?_
  refine WC.loopH (fun (gst : Nat × Bool) => match gst with | ⟨k, bg⟩ => [(7, .bool true), (8, .pointer (some ⟨b8, 0, none⟩)), (9, .pointer (some ⟨b9, 0, none⟩)), (10, .pointer (some ⟨b10, 0, none⟩)), (11, .pointer (some ⟨b11, 0, none⟩)), (13, .pointer (some ⟨b13, 0, none⟩)), (12, .int .i64 (mulE x y)), (14, .int .i64 (mulE y x)), (15, .bool bg), (16, .int .i64 (k : Int))]) (fun (gst : Nat × Bool) => match gst with | ⟨k, bg⟩ => k ≤ 8 ∧ (bg = true ↔ ∃ i : Fin 8, i.val < k ∧ 65535 < x i + y i)) (fun (gst : Nat × Bool) => match gst with | ⟨k, bg⟩ => St w0 G0 G0 [(8, b8, .cells (vecA x) 27 (0, 0)), (9, b9, .cells (vecA y) 27 (0, 0)), (10, b10, .cells (vecA z) 27 (0, 0)), (11, b11, .cells (vecA (mulM x y)) 27 (0, 0)), (13, b13, .cells (vecA (mulM y x)) 27 (0, 0))]) (fun (gst : Nat × Bool) => match gst with | ⟨k, bg⟩ => 8 - k) ⟨0, false⟩ ?_ ?_ ?_ ?_
  · exact Fr.sub_cons rfl (Fr.sub_cons rfl (Fr.sub_cons rfl (Fr.sub_cons rfl (Fr.sub_cons rfl (Fr.sub_cons rfl (Fr.sub_cons rfl (Fr.sub_cons rfl (Fr.sub_cons rfl (Fr.sub_cons rfl (Fr.sub_nil _))))))))))
  · exact ⟨by omega, by simp⟩
  · exact St.conseqL (Lo.sub_cons (rfl) (Lo.sub_cons (rfl) (Lo.sub_cons (rfl) (Lo.sub_cons (rfl) (Lo.sub_cons (rfl) (Lo.sub_nil _))))))
  rintro ⟨k, bg⟩ hx0
  obtain ⟨hk, hbg⟩ := hx0
  refine WC.seq ?_
  refine WC.seq ?_
  refine WC.region ?_
  refine WL.y0' guard_none (Y0.move rfl) rfl ?_
  refine WL.caseY0 guard_none (Y0.lss rfl rfl) rfl (fun h49 => ?_) (fun h49 => ?_)
  · skip
    have hn : k < 8 := by omega
    have bx := hx ⟨k, hn⟩
    have by_ := hy ⟨k, hn⟩
    refine WL.nil ?_
    refine WE.then ?_
    refine WC.condT rfl ?_
    refine WC.skip ?_
    refine WE.then ?_
    refine WC.seq ?_
    refine WC.block ?_
    refine WC.drawn [false, false, false, false, false, false, false, false, false, false, false, false] mix (by kernel_rfl) (fun hb => ?_)
    refine Chain.caseY0 guard_none (fun _ hle => Y0.eq (Y0.move rfl) (congrArg Value.bool (bdec _))) (fun h52 => ?_) (fun h52 => ?_)
    · skip
      refine Chain.y0 guard_none (fun _ hle => Y0.move rfl) ?_
      refine Chain.skip (guard_noF rfl rfl) ?_
      refine Chain.skip (guard_noF rfl rfl) ?_
      refine Chain.skip (guard_noF rfl rfl) ?_
      refine Chain.skip (guard_noF rfl rfl) ?_
      refine Chain.skip (guard_noF rfl rfl) ?_
      refine Chain.skip (guard_noF rfl rfl) ?_
      refine Chain.skip (guard_noF rfl rfl) ?_
      refine Chain.skip (guard_noF rfl rfl) ?_
      refine Chain.y0 guard_none (fun _ hle => Y0.pickT rfl rfl) ?_
      refine Chain.y0 guard_none (fun _ hle => Y0.assign rfl) ?_
      refine Chain.tail0 hb ?_
      refine WL.nil ?_
      refine WE.nx ?_
      refine WE.inBlock ?_
      refine WE.then ?_
      refine WC.region ?_
      refine WL.y0' guard_none (Y0.move rfl) rfl ?_
      first | refine WL.y0' guard_none (Y0.addI rfl rfl (by omega)) rfl ?_ | refine WL.y0' guard_none (Y0.add rfl rfl) rfl ?_
      refine WL.y0' guard_none (Y0.assign rfl) rfl ?_
      refine WL.nil ?_
      refine WE.backH ⟨k + 1, true⟩ ?_ ?_ ?_ ?_
      · exact ⟨by omega, ex_step hbg hn true (by simp [h52])⟩
      · exact Fr.sub_cons rfl (Fr.sub_cons rfl (Fr.sub_cons rfl (Fr.sub_cons rfl (Fr.sub_cons rfl (Fr.sub_cons rfl (Fr.sub_cons rfl (Fr.sub_cons rfl (Fr.sub_cons rfl (Fr.sub_cons rfl (Fr.sub_nil _))))))))))
      · exact St.conseqL (Lo.sub_cons (rfl) (Lo.sub_cons (rfl) (Lo.sub_cons (rfl) (Lo.sub_cons (rfl) (Lo.sub_cons (rfl) (Lo.sub_nil _))))))
      · dsimp only; omega
    · skip
      refine Chain.y0 guard_none (fun _ hle => Y0.move rfl) ?_
      refine Chain.y0 (guard_yes rfl rfl) (fun _ hle => Y0.move rfl) ?_
      first | refine Chain.y0 (guard_yes rfl rfl) (fun _ hle => Y0.idxArr1 Try.underlying27 sz3 rfl rfl (by omega)) ?_ | refine Chain.y0 (guard_yes rfl rfl) (fun _ hle => Y0.idxArr Try.underlying27 sz3 rfl rfl (by omega)) ?_
      refine Chain.y0 (guard_yes rfl rfl) (fun _ hle => Y0.loadL 8 sc3 rfl rfl (vecA_get x hn)) ?_
      refine Chain.y0 (guard_yes rfl rfl) (fun _ hle => Y0.move rfl) ?_
      first | refine Chain.y0 (guard_yes rfl rfl) (fun _ hle => Y0.idxArr1 Try.underlying27 sz3 rfl rfl (by omega)) ?_ | refine Chain.y0 (guard_yes rfl rfl) (fun _ hle => Y0.idxArr Try.underlying27 sz3 rfl rfl (by omega)) ?_
      refine Chain.y0 (guard_yes rfl rfl) (fun _ hle => Y0.loadL 9 sc3 rfl rfl (vecA_get y hn)) ?_
      first | refine Chain.y0 (guard_yes rfl rfl) (fun _ hle => Y0.addI rfl rfl (by omega)) ?_ | refine Chain.y0 (guard_yes rfl rfl) (fun _ hle => Y0.add rfl rfl) ?_
      refine Chain.caseY0 (guard_yes rfl rfl) (fun _ hle => Y0.gtr rfl rfl) (fun h61 => ?_) (fun h61 => ?_)
      · skip
        refine Chain.y0 guard_none (fun _ hle => Y0.pickF rfl rfl) ?_
        refine Chain.y0 guard_none (fun _ hle => Y0.assign rfl) ?_
        refine Chain.tail0 hb ?_
        refine WL.nil ?_
        refine WE.nx ?_
        refine WE.inBlock ?_
        refine WE.then ?_
        refine WC.region ?_
        refine WL.y0' guard_none (Y0.move rfl) rfl ?_
        first | refine WL.y0' guard_none (Y0.addI rfl rfl (by omega)) rfl ?_ | refine WL.y0' guard_none (Y0.add rfl rfl) rfl ?_
        refine WL.y0' guard_none (Y0.assign rfl) rfl ?_
        refine WL.nil ?_
        refine WE.backH ⟨k + 1, true⟩ ?_ ?_ ?_ ?_
        · exact ⟨by omega, ex_step hbg hn true (by simp [h61])⟩
        · exact Fr.sub_cons rfl (Fr.sub_cons rfl (Fr.sub_cons rfl (Fr.sub_cons rfl (Fr.sub_cons rfl (Fr.sub_cons rfl (Fr.sub_cons rfl (Fr.sub_cons rfl (Fr.sub_cons rfl (Fr.sub_cons rfl (Fr.sub_nil _))))))))))
        · exact St.conseqL (Lo.sub_cons (rfl) (Lo.sub_cons (rfl) (Lo.sub_cons (rfl) (Lo.sub_cons (rfl) (Lo.sub_cons (rfl) (Lo.sub_nil _))))))
        · dsimp only; omega
      · skip
        refine Chain.y0 guard_none (fun _ hle => Y0.pickF rfl rfl) ?_
        refine Chain.y0 guard_none (fun _ hle => Y0.assign rfl) ?_
        refine Chain.tail0 hb ?_
        refine WL.nil ?_
        refine WE.nx ?_
        refine WE.inBlock ?_
        refine WE.then ?_
        refine WC.region ?_
        refine WL.y0' guard_none (Y0.move rfl) rfl ?_
        first | refine WL.y0' guard_none (Y0.addI rfl rfl (by omega)) rfl ?_ | refine WL.y0' guard_none (Y0.add rfl rfl) rfl ?_
        refine WL.y0' guard_none (Y0.assign rfl) rfl ?_
        refine WL.nil ?_
        refine WE.backH ⟨k + 1, false⟩ ?_ ?_ ?_ ?_
        · exact ⟨by omega, ex_step hbg hn false (by simp [h52]; omega)⟩
        · exact Fr.sub_cons rfl (Fr.sub_cons rfl (Fr.sub_cons rfl (Fr.sub_cons rfl (Fr.sub_cons rfl (Fr.sub_cons rfl (Fr.sub_cons rfl (Fr.sub_cons rfl (Fr.sub_cons rfl (Fr.sub_cons rfl (Fr.sub_nil _))))))))))
        · exact St.conseqL (Lo.sub_cons (rfl) (Lo.sub_cons (rfl) (Lo.sub_cons (rfl) (Lo.sub_cons (rfl) (Lo.sub_cons (rfl) (Lo.sub_nil _))))))
        · dsimp only; omega
  · skip
    have hbg2 := bool_of_iff ((ex_all hbg (by omega)).trans (big_iff hx hy))
    subst hbg2
    clear hbg
    refine WL.nil ?_
    refine WE.then ?_
    refine WC.condF rfl ?_
    refine WC.exit ?_
    refine WE.thenExit ?_
    refine WE.thenExit ?_
    refine WE.exitHere ?_
    refine WE.then ?_
    refine WC.seq ?_
    refine WC.seq ?_
    refine WC.region ?_
    refine WL.y0' guard_none (Y0.loadLA 11 ag27 rfl rfl rfl) rfl ?_
    refine WL.y0' guard_none (Y0.loadLA 13 ag27 rfl rfl rfl) rfl ?_
    refine WL.y0' guard_none (Y0.eq (Y0.neqM Try.underlying27 Try.underlying3 sc3 sz3 eg27 rfl rfl) (congrArg Value.bool (decide_eq_false (fun h => h (mulM_comm _ _))))) rfl ?_
    refine WL.y0' guard_none (Y0.move rfl) rfl ?_
    refine WL.y0' (guard_yes rfl rfl) (Y0.move rfl) rfl ?_
    refine WL.y0' (guard_yes rfl rfl) (Y0.move rfl) rfl ?_
    refine WL.y0' (guard_yes rfl rfl) (Y0.eq (Y0.neq rfl rfl) (congrArg Value.bool (decide_eq_false (fun h => h (mulE_comm _ _))))) rfl ?_
    refine WL.y0' guard_none (Y0.pickF rfl rfl) rfl ?_
    refine WL.y0' guard_none (Y0.move rfl) rfl ?_
    refine WL.y0' (guard_yes rfl rfl) (Y0.move rfl) rfl ?_
    refine WL.y0' (guard_yes rfl rfl) (Y0.eql rfl rfl) rfl ?_
    refine WL.y0' (guard_yes rfl rfl) (Y0.move rfl) rfl ?_
    refine WL.y0' (guard_yes rfl rfl) (Y0.eq (Y0.neqB Try.underlying4 rfl rfl) (congrArg Value.bool (decide_eq_false (fun h => h rfl)))) rfl ?_
    refine WL.y0' guard_none (Y0.pickF rfl rfl) rfl ?_
    refine WL.y0' guard_none (Y0.move rfl) rfl ?_
    refine WL.y0' (guard_yes rfl rfl) (Y0.move rfl) rfl ?_
    refine WL.caseY0 (guard_yes rfl rfl) (Y0.notD rfl) rfl (fun h79 => ?_) (fun h79 => ?_)
    · skip
      refine WL.y0' (guard_yes rfl rfl) (Y0.move rfl) rfl ?_
      refine WL.y0' (guard_yes rfl rfl) (Y0.move rfl) rfl ?_
      refine WL.y0' (guard_yes rfl rfl) (Y0.eq (Y0.neq rfl rfl) (congrArg Value.bool (decide_eq_false (by omega)))) rfl ?_
      refine WL.y0' (guard_yes rfl rfl) (Y0.pickT rfl rfl) rfl ?_
      refine WL.y0' guard_none (Y0.pickF rfl rfl) rfl ?_
      refine WL.nil ?_
      refine WE.then ?_
      refine WC.condF rfl ?_
      refine WC.skip ?_
      refine WE.then ?_
      refine WC.seq ?_
      refine WC.seq ?_
      refine WC.region ?_
      refine WL.y0' guard_none (Y0.move rfl) rfl ?_
      refine WL.nil ?_
      refine WE.then ?_
      refine WC.condD rfl (fun hc1 => ?_) (fun hc1 => ?_)
      · skip
        refine WC.seq ?_
        refine WC.region ?_
        refine WL.y0' guard_none (Y0.move rfl) rfl ?_
        refine WL.y0' guard_none (Y0.move rfl) rfl ?_
        refine WL.y0' (guard_yes rfl rfl) (Y0.loadLA 11 ag27 rfl rfl rfl) rfl ?_
        refine WL.y0' (guard_yes rfl rfl) (Y0.buildM0 bz27) rfl ?_
        refine WL.y0' (guard_yes rfl rfl) (Y0.eq (Y0.eqlM Try.underlying27 Try.underlying3 sc3 sz3 eg27 rfl rfl) (congrArg Value.bool (decide_eq_true (mulM_big (mulE_big (by omega)))))) rfl ?_
        refine WL.y0' guard_none (Y0.pickT rfl rfl) rfl ?_
        refine WL.y0' guard_none (Y0.assign rfl) rfl ?_
        refine WL.nil ?_
        refine WE.then ?_
        refine WC.ret ?_
        refine WE.thenRet ?_
        refine WE.ret1 rfl rfl ?_
        rfl
      · skip
        refine WC.skip ?_
        refine WE.then ?_
        refine WC.seq ?_
        refine WC.region ?_
        refine WL.y0' guard_none (Y0.loadLA 11 ag27 rfl rfl rfl) rfl ?_
        refine WL.y0' guard_none (Y0.loadLA 9 ag27 rfl rfl rfl) rfl ?_
        refine WL.call0 guard_none rfl (YC.of E15 rfl) (mQuoT _ _ (by assumption) (by assumption)) rfl (trivial) ?_
        refine WL.y0' guard_none (Y0.move rfl) rfl ?_
        refine WL.y0' guard_none (Y0.extract rfl rfl) rfl ?_
        refine WL.y0' guard_none (Y0.extract rfl rfl) rfl ?_
        refine WL.alloc 17 guard_none z27 rfl (fun b17 => ?_)
        refine WL.storeLA 17 guard_none sz27 rfl rfl rfl rfl rfl rfl ?_
        refine WL.y0' guard_none (Y0.assign rfl) rfl ?_
        refine WL.nil ?_
        refine WE.then ?_
        refine WC.seq ?_
        refine WC.seq ?_
        refine WC.drawn [false, false, false, false, false, false, false, false, false, false, false, false, false, false, false, false, false, false, false, false, false, false, false, false, false, false, false] mix (by kernel_rfl) (fun hb => ?_)
        refine Chain.y0 guard_none (fun _ hle => Y0.move rfl) ?_
        refine Chain.y0 guard_none (fun _ hle => Y0.eq (Y0.notD rfl) (congrArg Value.bool (decide_eq_false (fun h => h (dvd_mul_r hx (by omega)))))) ?_
        refine Chain.y0 guard_none (fun _ hle => Y0.move rfl) ?_
        refine Chain.y0 (guard_yes rfl rfl) (fun _ hle => Y0.loadLA 17 ag27 rfl rfl rfl) ?_
        refine Chain.y0 (guard_yes rfl rfl) (fun _ hle => Y0.loadLA 8 ag27 rfl rfl rfl) ?_
        refine Chain.y0 (guard_yes rfl rfl) (fun _ hle => Y0.eq (Y0.neqM Try.underlying27 Try.underlying3 sc3 sz3 eg27 rfl rfl) (congrArg Value.bool (decide_eq_false (fun h => h (quo_mul hx (by omega)))))) ?_
        refine Chain.y0 guard_none (fun _ hle => Y0.pickF rfl rfl) ?_
        refine Chain.y0 guard_none (fun _ hle => Y0.move rfl) ?_
        refine Chain.y0 (guard_yes rfl rfl) (fun _ hle => Y0.loadLA 11 ag27 rfl rfl rfl) ?_
        refine Chain.call0 (guard_yes rfl rfl) (fun _ => YC.of E25 rfl) (mDegree _ (by assumption)) rfl (fun G' hle => trivial) ?_
        refine Chain.y0 (guard_yes rfl rfl) (fun _ hle => Y0.loadLA 8 ag27 rfl rfl rfl) ?_
        refine Chain.call0 (guard_yes rfl rfl) (fun _ => YC.of E25 rfl) (mDegree _ (by assumption)) rfl (fun G' hle => trivial) ?_
        refine Chain.y0 (guard_yes rfl rfl) (fun _ hle => Y0.loadLA 9 ag27 rfl rfl rfl) ?_
        refine Chain.call0 (guard_yes rfl rfl) (fun _ => YC.of E25 rfl) (mDegree _ (by assumption)) rfl (fun G' hle => trivial) ?_
        first | refine Chain.y0 (guard_yes rfl rfl) (fun _ hle => Y0.addI rfl rfl (by omega)) ?_ | refine Chain.y0 (guard_yes rfl rfl) (fun _ hle => Y0.add rfl rfl) ?_
        refine Chain.y0 (guard_yes rfl rfl) (fun _ hle => Y0.eq (Y0.neq rfl rfl) (congrArg Value.bool (decide_eq_false (fun h => h (deg_mul (by omega)))))) ?_
        refine Chain.y0 guard_none (fun _ hle => Y0.pickF rfl rfl) ?_
        refine Chain.y0 guard_none (fun _ hle => Y0.move rfl) ?_
        refine Chain.y0 (guard_yes rfl rfl) (fun _ hle => Y0.loadLA 11 ag27 rfl rfl rfl) ?_
        refine Chain.call0 (guard_yes rfl rfl) (fun _ => YC.of E27 rfl) (mSupport _) rfl (fun G' hle => trivial) ?_
        refine Chain.y0 (guard_yes rfl rfl) (fun _ hle => Y0.loadLA 8 ag27 rfl rfl rfl) ?_
        refine Chain.call0 (guard_yes rfl rfl) (fun _ => YC.of E27 rfl) (mSupport _) rfl (fun G' hle => trivial) ?_
        refine Chain.y0 (guard_yes rfl rfl) (fun _ hle => Y0.loadLA 9 ag27 rfl rfl rfl) ?_
        refine Chain.call0 (guard_yes rfl rfl) (fun _ => YC.of E27 rfl) (mSupport _) rfl (fun G' hle => trivial) ?_
        refine Chain.y0 (guard_yes rfl rfl) (fun _ hle => Y0.or rfl rfl) ?_
        refine Chain.y0 (guard_yes rfl rfl) (fun _ hle => Y0.eq (Y0.neq rfl rfl) (congrArg Value.bool (decide_eq_false (fun h => h (supp_mul hx hy (by omega)))))) ?_
        refine Chain.y0 guard_none (fun _ hle => Y0.pickF rfl rfl) ?_
        refine Chain.tail0 hb ?_
        refine WL.nil ?_
        refine WE.nx ?_
        refine WE.then ?_
        refine WC.condF rfl ?_
        refine WC.skip ?_
        refine WE.then ?_
        refine WC.seq ?_
        refine WC.region ?_
        refine WL.y0' guard_none (Y0.loadLA 8 ag27 rfl rfl rfl) rfl ?_
        refine WL.y0' guard_none (Y0.buildM0 bz27) rfl ?_
        refine WL.call0 guard_none rfl (YC.of E13 rfl) (mMulT _ _ (by assumption) (by assumption)) rfl (trivial) ?_
        refine WL.y0' guard_none (Y0.move rfl) rfl ?_
        refine WL.y0' guard_none (Y0.extract rfl rfl) rfl ?_
        refine WL.y0' guard_none (Y0.extract rfl rfl) rfl ?_
        refine WL.alloc 19 guard_none z27 rfl (fun b19 => ?_)
        refine WL.storeLA 19 guard_none sz27 rfl rfl rfl rfl rfl rfl ?_
        refine WL.y0' guard_none (Y0.assign rfl) rfl ?_
        refine WL.nil ?_
        refine WE.then ?_
        refine WC.seq ?_
        refine WC.region ?_
        refine WL.y0' guard_none (Y0.loadLA 9 ag27 rfl rfl rfl) rfl ?_
        refine WL.y0' guard_none (Y0.loadLA 10 ag27 rfl rfl rfl) rfl ?_
        refine WL.call0 guard_none rfl (YC.of E13 rfl) (mMulT _ _ (by assumption) (by assumption)) rfl (trivial) ?_
        refine WL.y0' guard_none (Y0.move rfl) rfl ?_
        refine WL.y0' guard_none (Y0.extract rfl rfl) rfl ?_
        refine WL.y0' guard_none (Y0.extract rfl rfl) rfl ?_
        refine WL.alloc 21 guard_none z27 rfl (fun b21 => ?_)
        refine WL.storeLA 21 guard_none sz27 rfl rfl rfl rfl rfl rfl ?_
        refine WL.y0' guard_none (Y0.assign rfl) rfl ?_
        refine WL.nil ?_
        refine WE.then ?_
        refine WC.seq ?_
        refine WC.seq ?_
        refine WC.region ?_
        refine WL.y0' guard_none (Y0.move rfl) rfl ?_
        refine WL.y0' guard_none (Y0.eq (Y0.neq rfl rfl) (congrArg Value.bool (decide_eq_false (fun h => h (mulE_zero hx))))) rfl ?_
        refine WL.y0' guard_none (Y0.move rfl) rfl ?_
        refine WL.y0' (guard_yes rfl rfl) (Y0.loadLA 19 ag27 rfl rfl rfl) rfl ?_
        refine WL.y0' (guard_yes rfl rfl) (Y0.loadLA 8 ag27 rfl rfl rfl) rfl ?_
        refine WL.y0' (guard_yes rfl rfl) (Y0.eq (Y0.neqM Try.underlying27 Try.underlying3 sc3 sz3 eg27 rfl rfl) (congrArg Value.bool (decide_eq_false (fun h => h (mulM_zero hx))))) rfl ?_
        refine WL.y0' guard_none (Y0.pickF rfl rfl) rfl ?_
        refine WL.y0' guard_none (Y0.move rfl) rfl ?_
        refine WL.y0' (guard_yes rfl rfl) (Y0.move rfl) rfl ?_
        refine WL.caseY0 (guard_yes rfl rfl) (Y0.neq rfl rfl) rfl (fun h146 => ?_) (fun h146 => ?_)
        · skip
          refine WL.y0' guard_none (Y0.pickF rfl rfl) rfl ?_
          refine WL.nil ?_
          refine WE.then ?_
          refine WC.condT rfl ?_
          refine WC.seq ?_
          refine WC.region ?_
          refine WL.y0' guard_none (Y0.move rfl) rfl ?_
          refine WL.y0' guard_none (Y0.move rfl) rfl ?_
          refine WL.y0' (guard_yes rfl rfl) (Y0.move rfl) rfl ?_
          refine WL.y0' (guard_yes rfl rfl) (Y0.eq (Y0.eql rfl rfl) (congrArg Value.bool (decide_eq_true (mulE_zero hx)))) rfl ?_
          refine WL.y0' guard_none (Y0.pickT rfl rfl) rfl ?_
          refine WL.y0' guard_none (Y0.move rfl) rfl ?_
          refine WL.y0' (guard_yes rfl rfl) (Y0.loadLA 19 ag27 rfl rfl rfl) rfl ?_
          refine WL.y0' (guard_yes rfl rfl) (Y0.loadLA 8 ag27 rfl rfl rfl) rfl ?_
          refine WL.y0' (guard_yes rfl rfl) (Y0.eq (Y0.eqlM Try.underlying27 Try.underlying3 sc3 sz3 eg27 rfl rfl) (congrArg Value.bool (decide_eq_true (mulM_zero hx)))) rfl ?_
          refine WL.y0' guard_none (Y0.pickT rfl rfl) rfl ?_
          refine WL.y0' guard_none (Y0.move rfl) rfl ?_
          refine WL.y0' (guard_yes rfl rfl) (Y0.move rfl) rfl ?_
          refine WL.y0' (guard_yes rfl rfl) (Y0.eq (Y0.eql rfl rfl) (congrArg Value.bool (decide_eq_true (by omega)))) rfl ?_
          refine WL.y0' guard_none (Y0.pickT rfl rfl) rfl ?_
          refine WL.y0' guard_none (Y0.assign rfl) rfl ?_
          refine WL.nil ?_
          refine WE.then ?_
          refine WC.ret ?_
          refine WE.thenRet ?_
          refine WE.ret1 rfl rfl ?_
          rfl
        · skip
          refine WL.y0' guard_none (Y0.pickF rfl rfl) rfl ?_
          refine WL.nil ?_
          refine WE.then ?_
          refine WC.condF rfl ?_
          refine WC.skip ?_
          refine WE.then ?_
          refine WC.seq ?_
          refine WC.region ?_
          refine WL.y0' guard_none (Y0.loadLA 11 ag27 rfl rfl rfl) rfl ?_
          refine WL.y0' guard_none (Y0.loadLA 10 ag27 rfl rfl rfl) rfl ?_
          refine WL.call0 guard_none rfl (YC.of E13 rfl) (mMulT _ _ (by assumption) (by assumption)) rfl (trivial) ?_
          refine WL.y0' guard_none (Y0.move rfl) rfl ?_
          refine WL.y0' guard_none (Y0.extract rfl rfl) rfl ?_
          refine WL.y0' guard_none (Y0.extract rfl rfl) rfl ?_
          refine WL.alloc 23 guard_none z27 rfl (fun b23 => ?_)
          refine WL.storeLA 23 guard_none sz27 rfl rfl rfl rfl rfl rfl ?_
          refine WL.y0' guard_none (Y0.assign rfl) rfl ?_
          refine WL.nil ?_
          refine WE.then ?_
          refine WC.seq ?_
          refine WC.region ?_
          refine WL.y0' guard_none (Y0.loadLA 8 ag27 rfl rfl rfl) rfl ?_
          refine WL.y0' guard_none (Y0.loadLA 21 ag27 rfl rfl rfl) rfl ?_
          refine WL.call0 guard_none rfl (YC.of E13 rfl) (mMulT _ _ (by assumption) (by assumption)) rfl (trivial) ?_
          refine WL.y0' guard_none (Y0.move rfl) rfl ?_
          refine WL.y0' guard_none (Y0.extract rfl rfl) rfl ?_
          refine WL.y0' guard_none (Y0.extract rfl rfl) rfl ?_
          refine WL.alloc 25 guard_none z27 rfl (fun b25 => ?_)
          refine WL.storeLA 25 guard_none sz27 rfl rfl rfl rfl rfl rfl ?_
          refine WL.y0' guard_none (Y0.assign rfl) rfl ?_
          refine WL.nil ?_
          refine WE.then ?_
          refine WC.seq ?_
          refine WC.region ?_
          refine WL.y0' guard_none (Y0.move rfl) rfl ?_
          refine WL.y0' guard_none (Y0.move rfl) rfl ?_
          refine WL.y0' (guard_yes rfl rfl) (Y0.loadLA 23 ag27 rfl rfl rfl) rfl ?_
          refine WL.y0' (guard_yes rfl rfl) (Y0.loadLA 25 ag27 rfl rfl rfl) rfl ?_
          refine WL.y0' (guard_yes rfl rfl) (Y0.eq (Y0.eqlM Try.underlying27 Try.underlying3 sc3 sz3 eg27 rfl rfl) (congrArg Value.bool (decide_eq_true (mul_assoc1 hx hy hz (by omega) (by omega))))) rfl ?_
          refine WL.y0' guard_none (Y0.pickT rfl rfl) rfl ?_
          refine WL.y0' guard_none (Y0.move rfl) rfl ?_
          refine WL.y0' (guard_yes rfl rfl) (Y0.move rfl) rfl ?_
          refine WL.y0' (guard_yes rfl rfl) (Y0.move rfl) rfl ?_
          refine WL.y0' (guard_yes rfl rfl) (Y0.eq (Y0.eql rfl rfl) (congrArg Value.bool (decide_eq_true (mul_assoc2 hx hy hz (by omega) (by omega))))) rfl ?_
          refine WL.y0' guard_none (Y0.pickT rfl rfl) rfl ?_
          refine WL.y0' guard_none (Y0.assign rfl) rfl ?_
          refine WL.nil ?_
          refine WE.then ?_
          refine WC.ret ?_
          refine WE.ret1 rfl rfl ?_
          rfl
    · skip
      refine WL.y0' (guard_yes rfl rfl) (Y0.move rfl) rfl ?_
      refine WL.skip (guard_noT rfl rfl) rfl ?_
      refine WL.skip (guard_noT rfl rfl) rfl ?_
      refine WL.y0' (guard_yes rfl rfl) (Y0.pickF rfl rfl) rfl ?_
      refine WL.y0' guard_none (Y0.pickF rfl rfl) rfl ?_
      refine WL.nil ?_
      refine WE.then ?_
      refine WC.condF rfl ?_
      refine WC.skip ?_
      refine WE.then ?_
      refine WC.seq ?_
      refine WC.seq ?_
      refine WC.region ?_
      refine WL.y0' guard_none (Y0.move rfl) rfl ?_
      refine WL.nil ?_
      refine WE.then ?_
      refine WC.condD rfl (fun hc2 => ?_) (fun hc2 => ?_)
      · skip
        refine WC.seq ?_
        refine WC.region ?_
        refine WL.y0' guard_none (Y0.move rfl) rfl ?_
        refine WL.y0' guard_none (Y0.move rfl) rfl ?_
        refine WL.y0' (guard_yes rfl rfl) (Y0.loadLA 11 ag27 rfl rfl rfl) rfl ?_
        refine WL.y0' (guard_yes rfl rfl) (Y0.buildM0 bz27) rfl ?_
        refine WL.y0' (guard_yes rfl rfl) (Y0.eq (Y0.eqlM Try.underlying27 Try.underlying3 sc3 sz3 eg27 rfl rfl) (congrArg Value.bool (decide_eq_true (mulM_big (mulE_big (by omega)))))) rfl ?_
        refine WL.y0' guard_none (Y0.pickT rfl rfl) rfl ?_
        refine WL.y0' guard_none (Y0.assign rfl) rfl ?_
        refine WL.nil ?_
        refine WE.then ?_
        refine WC.ret ?_
        refine WE.thenRet ?_
        refine WE.ret1 rfl rfl ?_
        rfl
      · skip
        refine WC.skip ?_
        refine WE.then ?_
        refine WC.seq ?_
        refine WC.region ?_
        refine WL.y0' guard_none (Y0.loadLA 11 ag27 rfl rfl rfl) rfl ?_
        refine WL.y0' guard_none (Y0.loadLA 9 ag27 rfl rfl rfl) rfl ?_
        refine WL.call0 guard_none rfl (YC.of E15 rfl) (mQuoT _ _ (by assumption) (by assumption)) rfl (trivial) ?_
        refine WL.y0' guard_none (Y0.move rfl) rfl ?_
        refine WL.y0' guard_none (Y0.extract rfl rfl) rfl ?_
        refine WL.y0' guard_none (Y0.extract rfl rfl) rfl ?_
        refine WL.alloc 17 guard_none z27 rfl (fun b17 => ?_)
        refine WL.storeLA 17 guard_none sz27 rfl rfl rfl rfl rfl rfl ?_
        refine WL.y0' guard_none (Y0.assign rfl) rfl ?_
        refine WL.nil ?_
        refine WE.then ?_
        refine WC.seq ?_
        refine WC.seq ?_
        refine WC.drawn [false, false, false, false, false, false, false, false, false, false, false, false, false, false, false, false, false, false, false, false, false, false, false, false, false, false, false] mix (by kernel_rfl) (fun hb => ?_)
        refine Chain.y0 guard_none (fun _ hle => Y0.move rfl) ?_
        refine Chain.y0 guard_none (fun _ hle => Y0.eq (Y0.notD rfl) (congrArg Value.bool (decide_eq_false (fun h => h (dvd_mul_r hx (by omega)))))) ?_
        refine Chain.y0 guard_none (fun _ hle => Y0.move rfl) ?_
        refine Chain.y0 (guard_yes rfl rfl) (fun _ hle => Y0.loadLA 17 ag27 rfl rfl rfl) ?_
        refine Chain.y0 (guard_yes rfl rfl) (fun _ hle => Y0.loadLA 8 ag27 rfl rfl rfl) ?_
        refine Chain.y0 (guard_yes rfl rfl) (fun _ hle => Y0.eq (Y0.neqM Try.underlying27 Try.underlying3 sc3 sz3 eg27 rfl rfl) (congrArg Value.bool (decide_eq_false (fun h => h (quo_mul hx (by omega)))))) ?_
        refine Chain.y0 guard_none (fun _ hle => Y0.pickF rfl rfl) ?_
        refine Chain.y0 guard_none (fun _ hle => Y0.move rfl) ?_
        refine Chain.y0 (guard_yes rfl rfl) (fun _ hle => Y0.loadLA 11 ag27 rfl rfl rfl) ?_
        refine Chain.call0 (guard_yes rfl rfl) (fun _ => YC.of E25 rfl) (mDegree _ (by assumption)) rfl (fun G' hle => trivial) ?_
        refine Chain.y0 (guard_yes rfl rfl) (fun _ hle => Y0.loadLA 8 ag27 rfl rfl rfl) ?_
        refine Chain.call0 (guard_yes rfl rfl) (fun _ => YC.of E25 rfl) (mDegree _ (by assumption)) rfl (fun G' hle => trivial) ?_
        refine Chain.y0 (guard_yes rfl rfl) (fun _ hle => Y0.loadLA 9 ag27 rfl rfl rfl) ?_
        refine Chain.call0 (guard_yes rfl rfl) (fun _ => YC.of E25 rfl) (mDegree _ (by assumption)) rfl (fun G' hle => trivial) ?_
        first | refine Chain.y0 (guard_yes rfl rfl) (fun _ hle => Y0.addI rfl rfl (by omega)) ?_ | refine Chain.y0 (guard_yes rfl rfl) (fun _ hle => Y0.add rfl rfl) ?_
        refine Chain.y0 (guard_yes rfl rfl) (fun _ hle => Y0.eq (Y0.neq rfl rfl) (congrArg Value.bool (decide_eq_false (fun h => h (deg_mul (by omega)))))) ?_
        refine Chain.y0 guard_none (fun _ hle => Y0.pickF rfl rfl) ?_
        refine Chain.y0 guard_none (fun _ hle => Y0.move rfl) ?_
        refine Chain.y0 (guard_yes rfl rfl) (fun _ hle => Y0.loadLA 11 ag27 rfl rfl rfl) ?_
        refine Chain.call0 (guard_yes rfl rfl) (fun _ => YC.of E27 rfl) (mSupport _) rfl (fun G' hle => trivial) ?_
        refine Chain.y0 (guard_yes rfl rfl) (fun _ hle => Y0.loadLA 8 ag27 rfl rfl rfl) ?_
        refine Chain.call0 (guard_yes rfl rfl) (fun _ => YC.of E27 rfl) (mSupport _) rfl (fun G' hle => trivial) ?_
        refine Chain.y0 (guard_yes rfl rfl) (fun _ hle => Y0.loadLA 9 ag27 rfl rfl rfl) ?_
        refine Chain.call0 (guard_yes rfl rfl) (fun _ => YC.of E27 rfl) (mSupport _) rfl (fun G' hle => trivial) ?_
        refine Chain.y0 (guard_yes rfl rfl) (fun _ hle => Y0.or rfl rfl) ?_
        refine Chain.y0 (guard_yes rfl rfl) (fun _ hle => Y0.eq (Y0.neq rfl rfl) (congrArg Value.bool (decide_eq_false (fun h => h (supp_mul hx hy (by omega)))))) ?_
        refine Chain.y0 guard_none (fun _ hle => Y0.pickF rfl rfl) ?_
        refine Chain.tail0 hb ?_
        refine WL.nil ?_
        refine WE.nx ?_
        refine WE.then ?_
        refine WC.condF rfl ?_
        refine WC.skip ?_
        refine WE.then ?_
        refine WC.seq ?_
        refine WC.region ?_
        refine WL.y0' guard_none (Y0.loadLA 8 ag27 rfl rfl rfl) rfl ?_
        refine WL.y0' guard_none (Y0.buildM0 bz27) rfl ?_
        refine WL.call0 guard_none rfl (YC.of E13 rfl) (mMulT _ _ (by assumption) (by assumption)) rfl (trivial) ?_
        refine WL.y0' guard_none (Y0.move rfl) rfl ?_
        refine WL.y0' guard_none (Y0.extract rfl rfl) rfl ?_
        refine WL.y0' guard_none (Y0.extract rfl rfl) rfl ?_
        refine WL.alloc 19 guard_none z27 rfl (fun b19 => ?_)
        refine WL.storeLA 19 guard_none sz27 rfl rfl rfl rfl rfl rfl ?_
        refine WL.y0' guard_none (Y0.assign rfl) rfl ?_
        refine WL.nil ?_
        refine WE.then ?_
        refine WC.seq ?_
        refine WC.region ?_
        refine WL.y0' guard_none (Y0.loadLA 9 ag27 rfl rfl rfl) rfl ?_
        refine WL.y0' guard_none (Y0.loadLA 10 ag27 rfl rfl rfl) rfl ?_
        refine WL.call0 guard_none rfl (YC.of E13 rfl) (mMulT _ _ (by assumption) (by assumption)) rfl (trivial) ?_
        refine WL.y0' guard_none (Y0.move rfl) rfl ?_
        refine WL.y0' guard_none (Y0.extract rfl rfl) rfl ?_
        refine WL.y0' guard_none (Y0.extract rfl rfl) rfl ?_
        refine WL.alloc 21 guard_none z27 rfl (fun b21 => ?_)
        refine WL.storeLA 21 guard_none sz27 rfl rfl rfl rfl rfl rfl ?_
        refine WL.y0' guard_none (Y0.assign rfl) rfl ?_
        refine WL.nil ?_
        refine WE.then ?_
        refine WC.seq ?_
        refine WC.seq ?_
        refine WC.region ?_
        refine WL.y0' guard_none (Y0.move rfl) rfl ?_
        refine WL.y0' guard_none (Y0.eq (Y0.neq rfl rfl) (congrArg Value.bool (decide_eq_false (fun h => h (mulE_zero hx))))) rfl ?_
        refine WL.y0' guard_none (Y0.move rfl) rfl ?_
        refine WL.y0' (guard_yes rfl rfl) (Y0.loadLA 19 ag27 rfl rfl rfl) rfl ?_
        refine WL.y0' (guard_yes rfl rfl) (Y0.loadLA 8 ag27 rfl rfl rfl) rfl ?_
        refine WL.y0' (guard_yes rfl rfl) (Y0.eq (Y0.neqM Try.underlying27 Try.underlying3 sc3 sz3 eg27 rfl rfl) (congrArg Value.bool (decide_eq_false (fun h => h (mulM_zero hx))))) rfl ?_
        refine WL.y0' guard_none (Y0.pickF rfl rfl) rfl ?_
        refine WL.y0' guard_none (Y0.move rfl) rfl ?_
        refine WL.y0' (guard_yes rfl rfl) (Y0.move rfl) rfl ?_
        refine WL.caseY0 (guard_yes rfl rfl) (Y0.neq rfl rfl) rfl (fun h146 => ?_) (fun h146 => ?_)
        · skip
          refine WL.y0' guard_none (Y0.pickF rfl rfl) rfl ?_
          refine WL.nil ?_
          refine WE.then ?_
          refine WC.condT rfl ?_
          refine WC.seq ?_
          refine WC.region ?_
          refine WL.y0' guard_none (Y0.move rfl) rfl ?_
          refine WL.y0' guard_none (Y0.move rfl) rfl ?_
          refine WL.y0' (guard_yes rfl rfl) (Y0.move rfl) rfl ?_
          refine WL.y0' (guard_yes rfl rfl) (Y0.eq (Y0.eql rfl rfl) (congrArg Value.bool (decide_eq_true (mulE_zero hx)))) rfl ?_
          refine WL.y0' guard_none (Y0.pickT rfl rfl) rfl ?_
          refine WL.y0' guard_none (Y0.move rfl) rfl ?_
          refine WL.y0' (guard_yes rfl rfl) (Y0.loadLA 19 ag27 rfl rfl rfl) rfl ?_
          refine WL.y0' (guard_yes rfl rfl) (Y0.loadLA 8 ag27 rfl rfl rfl) rfl ?_
          refine WL.y0' (guard_yes rfl rfl) (Y0.eq (Y0.eqlM Try.underlying27 Try.underlying3 sc3 sz3 eg27 rfl rfl) (congrArg Value.bool (decide_eq_true (mulM_zero hx)))) rfl ?_
          refine WL.y0' guard_none (Y0.pickT rfl rfl) rfl ?_
          refine WL.y0' guard_none (Y0.move rfl) rfl ?_
          refine WL.y0' (guard_yes rfl rfl) (Y0.move rfl) rfl ?_
          refine WL.y0' (guard_yes rfl rfl) (Y0.eq (Y0.eql rfl rfl) (congrArg Value.bool (decide_eq_true (by omega)))) rfl ?_
          refine WL.y0' guard_none (Y0.pickT rfl rfl) rfl ?_
          refine WL.y0' guard_none (Y0.assign rfl) rfl ?_
          refine WL.nil ?_
          refine WE.then ?_
          refine WC.ret ?_
          refine WE.thenRet ?_
          refine WE.ret1 rfl rfl ?_
          rfl
        · skip
          refine WL.y0' guard_none (Y0.pickF rfl rfl) rfl ?_
          refine WL.nil ?_
          refine WE.then ?_
          refine WC.condF rfl ?_
          refine WC.skip ?_
          refine WE.then ?_
          refine WC.seq ?_
          refine WC.region ?_
          refine WL.y0' guard_none (Y0.loadLA 11 ag27 rfl rfl rfl) rfl ?_
          refine WL.y0' guard_none (Y0.loadLA 10 ag27 rfl rfl rfl) rfl ?_
          refine WL.call0 guard_none rfl (YC.of E13 rfl) (mMulT _ _ (by assumption) (by assumption)) rfl (trivial) ?_
          refine WL.y0' guard_none (Y0.move rfl) rfl ?_
          refine WL.y0' guard_none (Y0.extract rfl rfl) rfl ?_
          refine WL.y0' guard_none (Y0.extract rfl rfl) rfl ?_
          refine WL.alloc 23 guard_none z27 rfl (fun b23 => ?_)
          refine WL.storeLA 23 guard_none sz27 rfl rfl rfl rfl rfl rfl ?_
          refine WL.y0' guard_none (Y0.assign rfl) rfl ?_
          refine WL.nil ?_
          refine WE.then ?_
          refine WC.seq ?_
          refine WC.region ?_
          refine WL.y0' guard_none (Y0.loadLA 8 ag27 rfl rfl rfl) rfl ?_
          refine WL.y0' guard_none (Y0.loadLA 21 ag27 rfl rfl rfl) rfl ?_
          refine WL.call0 guard_none rfl (YC.of E13 rfl) (mMulT _ _ (by assumption) (by assumption)) rfl (trivial) ?_
          refine WL.y0' guard_none (Y0.move rfl) rfl ?_
          refine WL.y0' guard_none (Y0.extract rfl rfl) rfl ?_
          refine WL.y0' guard_none (Y0.extract rfl rfl) rfl ?_
          refine WL.alloc 25 guard_none z27 rfl (fun b25 => ?_)
          refine WL.storeLA 25 guard_none sz27 rfl rfl rfl rfl rfl rfl ?_
          refine WL.y0' guard_none (Y0.assign rfl) rfl ?_
          refine WL.nil ?_
          refine WE.then ?_
          refine WC.seq ?_
          refine WC.region ?_
          refine WL.y0' guard_none (Y0.move rfl) rfl ?_
          refine WL.y0' guard_none (Y0.move rfl) rfl ?_
          refine WL.y0' (guard_yes rfl rfl) (Y0.loadLA 23 ag27 rfl rfl rfl) rfl ?_
          refine WL.y0' (guard_yes rfl rfl) (Y0.loadLA 25 ag27 rfl rfl rfl) rfl ?_
          refine WL.y0' (guard_yes rfl rfl) (Y0.eq (Y0.eqlM Try.underlying27 Try.underlying3 sc3 sz3 eg27 rfl rfl) (congrArg Value.bool (decide_eq_true (mul_assoc1 hx hy hz (by omega) (by omega))))) rfl ?_
          refine WL.y0' guard_none (Y0.pickT rfl rfl) rfl ?_
          refine WL.y0' guard_none (Y0.move rfl) rfl ?_
          refine WL.y0' (guard_yes rfl rfl) (Y0.move rfl) rfl ?_
          refine WL.y0' (guard_yes rfl rfl) (Y0.move rfl) rfl ?_
          refine WL.y0' (guard_yes rfl rfl) (Y0.eq (Y0.eql rfl rfl) (congrArg Value.bool (decide_eq_true (mul_assoc2 hx hy hz (by omega) (by omega))))) rfl ?_
          refine WL.y0' guard_none (Y0.pickT rfl rfl) rfl ?_
          refine WL.y0' guard_none (Y0.assign rfl) rfl ?_
          refine WL.nil ?_
          refine WE.then ?_
          refine WC.ret ?_
          refine WE.ret1 rfl rfl ?_
          rfl

end Go.Proofs.Ytdpmpefjplfgbaa
