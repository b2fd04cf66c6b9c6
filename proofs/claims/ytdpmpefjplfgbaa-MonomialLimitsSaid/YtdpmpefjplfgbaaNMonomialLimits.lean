/- The given statements, out of the contracts. No condition. -/
import Derived.Test.YtdpmpefjplfgbaaRows
import Derived.Test.YtdpmpefjplfgbaaElw
import Derived.Test.YtdpmpefjplfgbaaMg
import Derived.Test.YtdpmpefjplfgbaaNa
import Derived.Test.YtdpmpefjplfgbaaElx
namespace Go.Proofs.Ytdpmpefjplfgbaa
open Go Go.EL Go.RowKit Go.ChangeShapes Go.WideShapes Go.ChangeAt

theorem wMonomialLimits {H : Type} (enc : TypeId × Value → H) : LawCalls enc Try.prog 4 [27, 40] := by
  intro W base args ds p hval hA
  obtain ⟨v0, vs0, d0, ds0, p0, q0, hargs, rfl, rfl, h0, r0⟩ := trodAll_cons hA
  obtain ⟨v1, vs1, d1, ds1, p1, q1, rfl, rfl, rfl, h1, r1⟩ := trodAll_cons r0
  obtain ⟨rfl, rfl, rfl⟩ := trodAll_nil r1
  obtain rfl : args = #[v0, v1] := by cases args; simp_all
  obtain ⟨x0, rfl, o0⟩ := open_arr8 Try.underlying27 Try.underlying3 cells27 cells3 (hval 0 27 v0 rfl rfl) h0
  obtain ⟨x1, y1, rfl, o1, q1⟩ := open_arr2 Try.underlying40 Try.underlying3 (by kernel_rfl) cells3 (hval 1 40 v1 rfl rfl) h1
  exact (cMonomialLimits x0 x1 y1).law W _ (imm_none W) trivial
theorem hMonomialLimits : Rows.MonomialLimitsSaid := by
  refine OpenClaim.holds_of_wide 4 Try.f4 rfl rfl rfl rfl rfl rfl rfl ⟨rfl, rfl, rfl, rfl, rfl⟩ rfl rfl rfl rfl rfl (by kernel_rfl) Try.func4 (by kernel_rfl)
    (of_decide_eq_true (by kernel_rfl)) (by unfold Func.isWrapper; first | (rw [if_pos (by decide +kernel)]; kernel_rfl) | (rw [if_neg (by decide +kernel)]; exact ⟨rfl, rfl⟩)) (fun os started H enc _ => ?_)
  refine law_lifted (s := Rows.monomialLimitsSpec) ownK started (by kernel_rfl) Try.func4 (ChangeSpec.witness6 (enc := enc) (C := Try.checked) false ⟨#[], #[.agg (vecA zeroM), .agg #[.int .i64 0, .int .i64 0]], []⟩ 8 (by kernel_rfl) (by kernel_rfl) (by kernel_rfl) (by kernel_rfl)) laidK (by kernel_rfl) rfl Try.underlying4 rfl (fun ds h => ?_) ?_
  · match ds, h with
    | [_, _], _ => rfl
  · exact wMonomialLimits enc

end Go.Proofs.Ytdpmpefjplfgbaa
