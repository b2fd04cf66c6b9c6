/- The fixed examples hold. No condition. -/
import Derived.Test.YtdpmpefjplfgbaaMd
import Derived.Test.YtdpmpefjplfgbaaEln
namespace Go.Proofs.Ytdpmpefjplfgbaa
open Go Go.EL Go.RowKit

theorem bs42_5 (f0 f1 f2 f3 f4 : M) : ∀ w, (Instr.buildSlice 42 5 #[(0, .agg (vecA f0)), (1, .agg (vecA f1)), (2, .agg (vecA f2)), (3, .agg (vecA f3)), (4, .agg (vecA f4))]).run Try.prog w = .ok (.slice (some ⟨w.heap.size, 0, none⟩) 5 5) (w.alloc (.cells (flat [f0, f1, f2, f3, f4]).toArray 27)) := fun _ => by kernel_rfl
theorem bs42_3 (f0 f1 f2 : M) : ∀ w, (Instr.buildSlice 42 3 #[(0, .agg (vecA f0)), (1, .agg (vecA f1)), (2, .agg (vecA f2))]).run Try.prog w = .ok (.slice (some ⟨w.heap.size, 0, none⟩) 3 3) (w.alloc (.cells (flat [f0, f1, f2]).toArray 27)) := fun _ => by kernel_rfl
theorem bs42_2 (f0 f1 : M) : ∀ w, (Instr.buildSlice 42 2 #[(0, .agg (vecA f0)), (1, .agg (vecA f1))]).run Try.prog w = .ok (.slice (some ⟨w.heap.size, 0, none⟩) 2 2) (w.alloc (.cells (flat [f0, f1]).toArray 27)) := fun _ => by kernel_rfl
theorem lsanity  : Ctr Try.prog 11 #[] (fun G => True) (fun G r => r = .bool true) := by
  refine Ctr.enter (args := []) (N := 162) Try.func11 rfl rfl rfl (fun w0 G0 hL0 hpre => ?_)
  refine WC.seq ?_
  refine WC.region ?_
  refine WL.y0' guard_none (Y0.assign rfl) rfl ?_
  refine WL.nil ?_
  refine WE.then ?_
  refine WC.seq ?_
  refine WC.region ?_
  refine WL.call0 guard_none rfl (YC.of E36 rfl) (lmono _ _ _) rfl (trivial) ?_
  refine WL.call0 guard_none rfl (YC.of E36 rfl) (lmono _ _ _) rfl (trivial) ?_
  refine WL.call0 guard_none rfl (YC.of E15 rfl) (((mQuo (mono3 3 2 0) (mono3 1 2 0) (Ok.sm (by decide)) (Ok.sm (by decide))).yes (by decide))) rfl (trivial) ?_
  refine WL.y0' guard_none (Y0.move rfl) rfl ?_
  refine WL.y0' guard_none (Y0.extract rfl rfl) rfl ?_
  refine WL.y0' guard_none (Y0.extract rfl rfl) rfl ?_
  refine WL.alloc 1 guard_none z27 rfl (fun b1 => ?_)
  refine WL.storeLA 1 guard_none sz27 rfl rfl rfl rfl rfl rfl ?_
  refine WL.y0' guard_none (Y0.assign rfl) rfl ?_
  refine WL.nil ?_
  refine WE.then ?_
  refine WC.seq ?_
  refine WC.region ?_
  refine WL.call0 guard_none rfl (YC.of E36 rfl) (lmono _ _ _) rfl (trivial) ?_
  refine WL.call0 guard_none rfl (YC.of E36 rfl) (lmono _ _ _) rfl (trivial) ?_
  refine WL.call0 guard_none rfl (YC.of E15 rfl) (((mQuo (mono3 3 2 0) (mono3 0 3 0) (Ok.sm (by decide)) (Ok.sm (by decide))).no (by decide))) rfl (trivial) ?_
  refine WL.y0' guard_none (Y0.move rfl) rfl ?_
  refine WL.y0' guard_none (Y0.extract rfl rfl) rfl ?_
  refine WL.y0' guard_none (Y0.extract rfl rfl) rfl ?_
  refine WL.alloc 3 guard_none z27 rfl (fun b3 => ?_)
  refine WL.storeLA 3 guard_none sz27 rfl rfl rfl rfl rfl rfl ?_
  refine WL.y0' guard_none (Y0.assign rfl) rfl ?_
  refine WL.nil ?_
  refine WE.then ?_
  refine WC.seq ?_
  refine WC.region ?_
  refine WL.call0 guard_none rfl (YC.of E36 rfl) (lmono _ _ _) rfl (trivial) ?_
  refine WL.call0 guard_none rfl (YC.of E36 rfl) (lmono _ _ _) rfl (trivial) ?_
  refine WL.call0 guard_none rfl (YC.of E13 rfl) ((mMul (mono3 65535 0 0) (mono3 1 0 0) (Ok.sm (by decide)) (Ok.sm (by decide))).no (by decide)) rfl (trivial) ?_
  refine WL.y0' guard_none (Y0.move rfl) rfl ?_
  refine WL.y0' guard_none (Y0.extract rfl rfl) rfl ?_
  refine WL.y0' guard_none (Y0.extract rfl rfl) rfl ?_
  refine WL.alloc 5 guard_none z27 rfl (fun b5 => ?_)
  refine WL.storeLA 5 guard_none sz27 rfl rfl rfl rfl rfl rfl ?_
  refine WL.y0' guard_none (Y0.assign rfl) rfl ?_
  refine WL.nil ?_
  refine WE.then ?_
  refine WC.seq ?_
  refine WC.region ?_
  refine WL.call guard_none rfl (YC.of E30 rfl) (mAllOk 2 2 (by decide) (by decide)) rfl (trivial) (fun v35 G35 hle35 hp35 => ?_)
  obtain ⟨v35, rfl, hsl35⟩ := hp35
  rw [show allM 2 2 = [mono3 2 0 0, mono3 1 1 0, mono3 0 2 0] by decide] at hsl35
  refine WL.y0' guard_none (Y0.move rfl) rfl ?_
  refine WL.y0' guard_none (Y0.extract rfl rfl) rfl ?_
  refine WL.y0' guard_none (Y0.extract rfl rfl) rfl ?_
  refine WL.y0' guard_none (Y0.assign rfl) rfl ?_
  refine WL.y0' guard_none (Y0.assign rfl) rfl ?_
  refine WL.nil ?_
  refine WE.then ?_
  refine WC.seq ?_
  refine WC.region ?_
  refine WL.call0 guard_none rfl (YC.of E30 rfl) (mAllBad 9 1 (by decide)) rfl (trivial) ?_
  refine WL.y0' guard_none (Y0.move rfl) rfl ?_
  refine WL.y0' guard_none (Y0.extract rfl rfl) rfl ?_
  refine WL.y0' guard_none (Y0.extract rfl rfl) rfl ?_
  refine WL.y0' guard_none (Y0.assign rfl) rfl ?_
  refine WL.y0' guard_none (Y0.assign rfl) rfl ?_
  refine WL.nil ?_
  refine WE.then ?_
  refine WC.seq ?_
  refine WC.region ?_
  refine WL.call guard_none rfl (YC.of E30 rfl) (mAllOk 0 1 (by decide) (by decide)) rfl (trivial) (fun v43 G43 hle43 hp43 => ?_)
  obtain ⟨v43, rfl, hsl43⟩ := hp43
  have hsl35 := hsl35.mono hle43
  rw [show allM 0 1 = [] by decide] at hsl43
  obtain ⟨p43, cap43, _, _, rfl, _⟩ := hsl43
  refine WL.y0' guard_none (Y0.move rfl) rfl ?_
  refine WL.y0' guard_none (Y0.extract rfl rfl) rfl ?_
  refine WL.y0' guard_none (Y0.extract rfl rfl) rfl ?_
  refine WL.y0' guard_none (Y0.assign rfl) rfl ?_
  refine WL.y0' guard_none (Y0.assign rfl) rfl ?_
  refine WL.nil ?_
  refine WE.then ?_
  refine WC.seq ?_
  refine WC.region ?_
  refine WL.call0 guard_none rfl (YC.of E36 rfl) (lmono _ _ _) rfl (trivial) ?_
  refine WL.call0 guard_none rfl (YC.of E36 rfl) (lmono _ _ _) rfl (trivial) ?_
  refine WL.call0 guard_none rfl (YC.of E36 rfl) (lmono _ _ _) rfl (trivial) ?_
  refine WL.call0 guard_none rfl (YC.of E36 rfl) (lmono _ _ _) rfl (trivial) ?_
  refine WL.call0 guard_none rfl (YC.of E36 rfl) (lmono _ _ _) rfl (trivial) ?_
  refine WL.buildSl 51 guard_none rfl (vs := #[(0, .agg (vecA (mono3 1 2 0))), (1, .agg (vecA (mono3 2 0 0))), (2, .agg (vecA (mono3 1 1 0))), (3, .agg (vecA (mono3 2 0 0))), (4, .agg (vecA (mono3 1 2 0)))]) rfl rfl (bs42_5 (mono3 1 2 0) (mono3 2 0 0) (mono3 1 1 0) (mono3 2 0 0) (mono3 1 2 0)) (fun b51 => ?_)
  refine WL.giveHead [mono3 1 2 0, mono3 2 0 0, mono3 1 1 0, mono3 2 0 0, mono3 1 2 0] rfl rfl (by rw [hL0]; rfl) (by decide) (fun G51 hle51 hsl51 => ?_)
  have hsl35 := hsl35.mono hle51
  refine WL.call guard_none rfl (YC.of E33 rfl) (mMinimal _ _ (by decide)) rfl (hsl51) (fun v52 G52 hle52 hp52 => ?_)
  have hsl52 := hp52
  rw [sane_min] at hsl52
  have hsl35 := hsl35.mono hle52
  have hsl51 := hsl51.mono hle52
  refine WL.y0' guard_none (Y0.assign rfl) rfl ?_
  refine WL.nil ?_
  refine WE.then ?_
  refine WC.seq ?_
  refine WC.drawn [false, false, false, false, false, false, false, false, false, false, false, false, false, false, false, false, false, false, false, false, false, false, false, false, false, false, false, false, false, false, false, false, false, false, false, false, false] mix (by kernel_rfl) (fun hb => ?_)
  refine Chain.call0 guard_none (fun _ => YC.of E36 rfl) (lmono _ _ _) rfl (fun G' hle => trivial) ?_
  refine Chain.call0 guard_none (fun _ => YC.of E36 rfl) (lmono _ _ _) rfl (fun G' hle => trivial) ?_
  refine Chain.call0 guard_none (fun _ => YC.of E19 rfl) ((mCmp (mono3 1 0 0) (mono3 0 5 0)).eqvI (b' := 1) (by decide)) rfl (fun G' hle => trivial) ?_
  refine Chain.y0 guard_none (fun _ hle => Y0.eq (Y0.eql rfl rfl) (congrArg Value.bool (decide_eq_true (by decide)))) ?_
  refine Chain.y0 guard_none (fun _ hle => Y0.move rfl) ?_
  refine Chain.call0 (guard_yes rfl rfl) (fun _ => YC.of E36 rfl) (lmono _ _ _) rfl (fun G' hle => trivial) ?_
  refine Chain.call0 (guard_yes rfl rfl) (fun _ => YC.of E36 rfl) (lmono _ _ _) rfl (fun G' hle => trivial) ?_
  refine Chain.call0 (guard_yes rfl rfl) (fun _ => YC.of E19 rfl) ((mCmp (mono3 2 1 0) (mono3 2 3 0)).eqvI (b' := -1) (by decide)) rfl (fun G' hle => trivial) ?_
  refine Chain.y0 (guard_yes rfl rfl) (fun _ hle => Y0.eq (Y0.eql rfl rfl) (congrArg Value.bool (decide_eq_true (by decide)))) ?_
  refine Chain.y0 guard_none (fun _ hle => Y0.pickT rfl rfl) ?_
  refine Chain.y0 guard_none (fun _ hle => Y0.move rfl) ?_
  refine Chain.call0 (guard_yes rfl rfl) (fun _ => YC.of E36 rfl) (lmono _ _ _) rfl (fun G' hle => trivial) ?_
  refine Chain.call0 (guard_yes rfl rfl) (fun _ => YC.of E36 rfl) (lmono _ _ _) rfl (fun G' hle => trivial) ?_
  refine Chain.call0 (guard_yes rfl rfl) (fun _ => YC.of E21 rfl) (mLcm (mono3 3 0 1) (mono3 1 2 0)) rfl (fun G' hle => trivial) ?_
  refine Chain.call0 (guard_yes rfl rfl) (fun _ => YC.of E36 rfl) (lmono _ _ _) rfl (fun G' hle => trivial) ?_
  refine Chain.y0 (guard_yes rfl rfl) (fun _ hle => Y0.eq (Y0.eqlM Try.underlying27 Try.underlying3 sc3 sz3 eg27 rfl rfl) (congrArg Value.bool (decide_eq_true (by decide)))) ?_
  refine Chain.y0 guard_none (fun _ hle => Y0.pickT rfl rfl) ?_
  refine Chain.y0 guard_none (fun _ hle => Y0.move rfl) ?_
  refine Chain.call0 (guard_yes rfl rfl) (fun _ => YC.of E36 rfl) (lmono _ _ _) rfl (fun G' hle => trivial) ?_
  refine Chain.call0 (guard_yes rfl rfl) (fun _ => YC.of E36 rfl) (lmono _ _ _) rfl (fun G' hle => trivial) ?_
  refine Chain.call0 (guard_yes rfl rfl) (fun _ => YC.of E23 rfl) (mGcd (mono3 3 0 1) (mono3 1 2 0)) rfl (fun G' hle => trivial) ?_
  refine Chain.call0 (guard_yes rfl rfl) (fun _ => YC.of E36 rfl) (lmono _ _ _) rfl (fun G' hle => trivial) ?_
  refine Chain.y0 (guard_yes rfl rfl) (fun _ hle => Y0.eq (Y0.eqlM Try.underlying27 Try.underlying3 sc3 sz3 eg27 rfl rfl) (congrArg Value.bool (decide_eq_true (by decide)))) ?_
  refine Chain.y0 guard_none (fun _ hle => Y0.pickT rfl rfl) ?_
  refine Chain.y0 guard_none (fun _ hle => Y0.move rfl) ?_
  refine Chain.y0 (guard_yes rfl rfl) (fun _ hle => Y0.move rfl) ?_
  refine Chain.y0 guard_none (fun _ hle => Y0.pickT rfl rfl) ?_
  refine Chain.y0 guard_none (fun _ hle => Y0.move rfl) ?_
  refine Chain.y0 (guard_yes rfl rfl) (fun _ hle => Y0.move rfl) ?_
  refine Chain.y0 (guard_yes rfl rfl) (fun _ hle => Y0.not rfl) ?_
  refine Chain.y0 guard_none (fun _ hle => Y0.pickT rfl rfl) ?_
  refine Chain.y0 guard_none (fun _ hle => Y0.move rfl) ?_
  refine Chain.y0 (guard_yes rfl rfl) (fun _ hle => Y0.loadLA 1 ag27 rfl rfl rfl) ?_
  refine Chain.call0 (guard_yes rfl rfl) (fun _ => YC.of E36 rfl) (lmono _ _ _) rfl (fun G' hle => trivial) ?_
  refine Chain.y0 (guard_yes rfl rfl) (fun _ hle => Y0.eq (Y0.eqlM Try.underlying27 Try.underlying3 sc3 sz3 eg27 rfl rfl) (congrArg Value.bool (decide_eq_true (by decide)))) ?_
  refine Chain.y0 guard_none (fun _ hle => Y0.pickT rfl rfl) ?_
  refine Chain.y0 guard_none (fun _ hle => Y0.assign rfl) ?_
  refine Chain.tail0 hb ?_
  refine WL.nil ?_
  refine WE.nx ?_
  refine WE.then ?_
  refine WC.seq ?_
  refine WC.region ?_
  refine WL.y0' guard_none (Y0.move rfl) rfl ?_
  refine WL.y0' guard_none (Y0.eq (Y0.eql rfl rfl) (congrArg Value.bool (decide_eq_true (by decide)))) rfl ?_
  refine WL.y0' guard_none (Y0.move rfl) rfl ?_
  refine WL.y0' (guard_yes rfl rfl) (Y0.move rfl) rfl ?_
  refine WL.y0' (guard_yes rfl rfl) (Y0.eq (Y0.eql rfl rfl) (congrArg Value.bool (decide_eq_true (by decide)))) rfl ?_
  refine WL.y0' guard_none (Y0.pickT rfl rfl) rfl ?_
  refine WL.y0' guard_none (Y0.move rfl) rfl ?_
  refine WL.y0' (guard_yes rfl rfl) (Y0.move rfl) rfl ?_
  refine WL.y0' (guard_yes rfl rfl) (Y0.eq (Y0.eql rfl rfl) (congrArg Value.bool (decide_eq_true (by decide)))) rfl ?_
  refine WL.y0' guard_none (Y0.pickT rfl rfl) rfl ?_
  refine WL.y0' guard_none (Y0.move rfl) rfl ?_
  refine WL.y0' (guard_yes rfl rfl) (Y0.move rfl) rfl ?_
  refine WL.call0 (guard_yes rfl rfl) rfl (YC.of E36 rfl) (lmono _ _ _) rfl (trivial) ?_
  refine WL.call0 (guard_yes rfl rfl) rfl (YC.of E36 rfl) (lmono _ _ _) rfl (trivial) ?_
  refine WL.call0 (guard_yes rfl rfl) rfl (YC.of E36 rfl) (lmono _ _ _) rfl (trivial) ?_
  refine WL.buildSl 104 (guard_yes rfl rfl) rfl (vs := #[(0, .agg (vecA (mono3 2 0 0))), (1, .agg (vecA (mono3 1 1 0))), (2, .agg (vecA (mono3 0 2 0)))]) rfl rfl (bs42_3 (mono3 2 0 0) (mono3 1 1 0) (mono3 0 2 0)) (fun b104 => ?_)
  refine WL.giveHead [mono3 2 0 0, mono3 1 1 0, mono3 0 2 0] rfl rfl (by rw [hL0]; rfl) (by decide) (fun G104 hle104 hsl104 => ?_)
  have hsl35 := hsl35.mono hle104
  have hsl51 := hsl51.mono hle104
  have hsl52 := hsl52.mono hle104
  refine WL.call0 (guard_yes rfl rfl) rfl (YC.of E35 rfl) ((rSame _ _ [mono3 2 0 0, mono3 1 1 0, mono3 0 2 0] [mono3 2 0 0, mono3 1 1 0, mono3 0 2 0]).eqvB (b' := true) (by decide)) rfl (⟨hsl35, hsl104⟩) ?_
  refine WL.y0' guard_none (Y0.pickT rfl rfl) rfl ?_
  refine WL.y0' guard_none (Y0.move rfl) rfl ?_
  refine WL.y0' (guard_yes rfl rfl) (Y0.move rfl) rfl ?_
  refine WL.y0' (guard_yes rfl rfl) (Y0.lenSl Try.underlying42 rfl) rfl ?_
  refine WL.y0' (guard_yes rfl rfl) (Y0.eq (Y0.eql rfl rfl) (congrArg Value.bool (decide_eq_true (by decide)))) rfl ?_
  refine WL.y0' guard_none (Y0.pickT rfl rfl) rfl ?_
  refine WL.y0' guard_none (Y0.move rfl) rfl ?_
  refine WL.y0' (guard_yes rfl rfl) (Y0.move rfl) rfl ?_
  refine WL.call0 (guard_yes rfl rfl) rfl (YC.of E36 rfl) (lmono _ _ _) rfl (trivial) ?_
  refine WL.call0 (guard_yes rfl rfl) rfl (YC.of E36 rfl) (lmono _ _ _) rfl (trivial) ?_
  refine WL.buildSl 116 (guard_yes rfl rfl) rfl (vs := #[(0, .agg (vecA (mono3 2 0 0))), (1, .agg (vecA (mono3 1 1 0)))]) rfl rfl (bs42_2 (mono3 2 0 0) (mono3 1 1 0)) (fun b116 => ?_)
  refine WL.giveHead [mono3 2 0 0, mono3 1 1 0] rfl rfl (by rw [hL0]; rfl) (by decide) (fun G116 hle116 hsl116 => ?_)
  have hsl35 := hsl35.mono hle116
  have hsl51 := hsl51.mono hle116
  have hsl52 := hsl52.mono hle116
  have hsl104 := hsl104.mono hle116
  refine WL.call0 (guard_yes rfl rfl) rfl (YC.of E35 rfl) ((rSame _ _ [mono3 2 0 0, mono3 1 1 0] [mono3 2 0 0, mono3 1 1 0]).eqvB (b' := true) (by decide)) rfl (⟨hsl52, hsl116⟩) ?_
  refine WL.y0' guard_none (Y0.pickT rfl rfl) rfl ?_
  refine WL.y0' guard_none (Y0.move rfl) rfl ?_
  refine WL.call0 (guard_yes rfl rfl) rfl (YC.of E36 rfl) (lmono _ _ _) rfl (trivial) ?_
  refine WL.y0' (guard_yes rfl rfl) (Y0.move rfl) rfl ?_
  refine WL.call0 (guard_yes rfl rfl) rfl (YC.of E34 rfl) ((mIn (mono3 2 1 0) _ [mono3 2 0 0, mono3 1 1 0]).eqvB (b' := true) (by decide)) rfl (hsl52) ?_
  refine WL.y0' guard_none (Y0.pickT rfl rfl) rfl ?_
  refine WL.y0' guard_none (Y0.move rfl) rfl ?_
  refine WL.call0 (guard_yes rfl rfl) rfl (YC.of E36 rfl) (lmono _ _ _) rfl (trivial) ?_
  refine WL.y0' (guard_yes rfl rfl) (Y0.move rfl) rfl ?_
  refine WL.call0 (guard_yes rfl rfl) rfl (YC.of E34 rfl) ((mIn (mono3 1 0 4) _ [mono3 2 0 0, mono3 1 1 0]).eqvB (b' := false) (by decide)) rfl (hsl52) ?_
  refine WL.y0' (guard_yes rfl rfl) (Y0.not rfl) rfl ?_
  refine WL.y0' guard_none (Y0.pickT rfl rfl) rfl ?_
  refine WL.y0' guard_none (Y0.assign rfl) rfl ?_
  refine WL.nil ?_
  refine WE.then ?_
  refine WC.seq ?_
  refine WC.region ?_
  refine WL.y0' guard_none (Y0.move rfl) rfl ?_
  refine WL.y0' guard_none (Y0.move rfl) rfl ?_
  refine WL.y0' (guard_yes rfl rfl) (Y0.move rfl) rfl ?_
  refine WL.y0' guard_none (Y0.pickT rfl rfl) rfl ?_
  refine WL.y0' guard_none (Y0.move rfl) rfl ?_
  refine WL.y0' (guard_yes rfl rfl) (Y0.move rfl) rfl ?_
  refine WL.y0' (guard_yes rfl rfl) (Y0.eq (Y0.eql rfl rfl) (congrArg Value.bool (decide_eq_true (by decide)))) rfl ?_
  refine WL.y0' guard_none (Y0.pickT rfl rfl) rfl ?_
  refine WL.y0' guard_none (Y0.move rfl) rfl ?_
  refine WL.call0 (guard_yes rfl rfl) rfl (YC.of E36 rfl) (lmono _ _ _) rfl (trivial) ?_
  refine WL.call0 (guard_yes rfl rfl) rfl (YC.of E25 rfl) ((mDegree (mono3 3 0 4) (Ok.sm (by decide))).eqvI (b' := 7) (by decide)) rfl (trivial) ?_
  refine WL.y0' (guard_yes rfl rfl) (Y0.eq (Y0.eql rfl rfl) (congrArg Value.bool (decide_eq_true (by decide)))) rfl ?_
  refine WL.y0' guard_none (Y0.pickT rfl rfl) rfl ?_
  refine WL.y0' guard_none (Y0.move rfl) rfl ?_
  refine WL.call0 (guard_yes rfl rfl) rfl (YC.of E36 rfl) (lmono _ _ _) rfl (trivial) ?_
  refine WL.call0 (guard_yes rfl rfl) rfl (YC.of E27 rfl) ((mSupport (mono3 3 0 4)).eqvI (b' := 5) (by decide)) rfl (trivial) ?_
  refine WL.y0' (guard_yes rfl rfl) (Y0.eq (Y0.eql rfl rfl) (congrArg Value.bool (decide_eq_true (by decide)))) rfl ?_
  refine WL.y0' guard_none (Y0.pickT rfl rfl) rfl ?_
  refine WL.y0' guard_none (Y0.move rfl) rfl ?_
  refine WL.call0 (guard_yes rfl rfl) rfl (YC.of E36 rfl) (lmono _ _ _) rfl (trivial) ?_
  refine WL.call0 (guard_yes rfl rfl) rfl (YC.of E29 rfl) ((mValid (mono3 65535 0 0)).eqvB (b' := true) (by decide)) rfl (trivial) ?_
  refine WL.y0' guard_none (Y0.pickT rfl rfl) rfl ?_
  refine WL.y0' guard_none (Y0.move rfl) rfl ?_
  refine WL.call0 (guard_yes rfl rfl) rfl (YC.of E36 rfl) (lmono _ _ _) rfl (trivial) ?_
  refine WL.call0 (guard_yes rfl rfl) rfl (YC.of E29 rfl) ((mValid (mono3 0 (-1) 0)).eqvB (b' := false) (by decide)) rfl (trivial) ?_
  refine WL.y0' (guard_yes rfl rfl) (Y0.not rfl) rfl ?_
  refine WL.y0' guard_none (Y0.pickT rfl rfl) rfl ?_
  refine WL.y0' guard_none (Y0.move rfl) rfl ?_
  refine WL.call0 (guard_yes rfl rfl) rfl (YC.of E36 rfl) (lmono _ _ _) rfl (trivial) ?_
  refine WL.call0 (guard_yes rfl rfl) rfl (YC.of E36 rfl) (lmono _ _ _) rfl (trivial) ?_
  refine WL.call0 (guard_yes rfl rfl) rfl (YC.of E17 rfl) ((mDivides (mono3 1 0 0) (mono3 1 1 0)).eqvB (b' := true) (by decide)) rfl (trivial) ?_
  refine WL.y0' guard_none (Y0.pickT rfl rfl) rfl ?_
  refine WL.y0' guard_none (Y0.assign rfl) rfl ?_
  refine WL.nil ?_
  refine WE.then ?_
  refine WC.ret ?_
  refine WE.ret1 rfl rfl ?_
  rfl

end Go.Proofs.Ytdpmpefjplfgbaa
