/- The given statements, out of the contracts. No condition. -/
import Derived.Test.YtdpmpefjplfgbaaRows
import Derived.Test.YtdpmpefjplfgbaaElw
import Derived.Test.YtdpmpefjplfgbaaMi
import Derived.Test.YtdpmpefjplfgbaaNa
import Derived.Test.YtdpmpefjplfgbaaElx
namespace Go.Proofs.Ytdpmpefjplfgbaa
open Go Go.EL Go.RowKit Go.ChangeShapes Go.WideShapes Go.ChangeAt

theorem wMonomialMinimal {H : Type} (enc : TypeId × Value → H) : LawCalls enc Try.prog 9 [47, 24] := by
  intro W base args ds p hval hA
  obtain ⟨v0, vs0, d0, ds0, p0, q0, hargs, rfl, rfl, h0, r0⟩ := trodAll_cons hA
  obtain ⟨v1, vs1, d1, ds1, p1, q1, rfl, rfl, rfl, h1, r1⟩ := trodAll_cons r0
  obtain ⟨rfl, rfl, rfl⟩ := trodAll_nil r1
  obtain rfl : args = #[v0, v1] := by cases args; simp_all
  obtain ⟨x0, s0, o0⟩ := open_raws Try.underlying47 Try.underlying24 Try.underlying22 cells24 cells22 (hval 0 47 v0 rfl rfl) h0
  obtain ⟨x1, rfl, o1⟩ := open_raw Try.underlying24 Try.underlying22 cells24 cells22 (hval 1 24 v1 rfl rfl) h1
  exact (cMonomialMinimal v0 x0 o0 x1 o1).law W _ (imm_all W) s0
theorem hMonomialMinimal : Rows.MonomialMinimalSaid := by
  refine OpenClaim.holds_of_wide 9 Try.f9 rfl rfl rfl rfl rfl rfl rfl ⟨rfl, rfl, rfl, rfl, rfl⟩ rfl rfl rfl rfl rfl (by kernel_rfl) Try.func9 (by kernel_rfl)
    (of_decide_eq_true (by kernel_rfl)) (by unfold Func.isWrapper; first | (rw [if_pos (by decide +kernel)]; kernel_rfl) | (rw [if_neg (by decide +kernel)]; exact ⟨rfl, rfl⟩)) (fun os started H enc _ => ?_)
  refine law_lifted (s := Rows.monomialMinimalSpec) ownK started (by kernel_rfl) Try.func9 (ChangeSpec.witness6 (enc := enc) (C := Try.checked) false ⟨#[], #[.slice none 0 0, .agg (vecU zeroM)], []⟩ 8 (by kernel_rfl) (by kernel_rfl) (by kernel_rfl) (by kernel_rfl)) laidK (by kernel_rfl) rfl Try.underlying4 rfl (fun ds h => ?_) ?_
  · match ds, h with
    | [_, _], _ => rfl
  · exact wMonomialMinimal enc

end Go.Proofs.Ytdpmpefjplfgbaa
