/- The given statements, out of the contracts. No condition. -/
import Derived.Test.YtdpmpefjplfgbaaRows
import Derived.Test.YtdpmpefjplfgbaaElw
import Derived.Test.YtdpmpefjplfgbaaMh
import Derived.Test.YtdpmpefjplfgbaaNa
import Derived.Test.YtdpmpefjplfgbaaElx
namespace Go.Proofs.Ytdpmpefjplfgbaa
open Go Go.EL Go.RowKit Go.ChangeShapes Go.WideShapes Go.ChangeAt

theorem wMonomialAll {H : Type} (enc : TypeId × Value → H) : LawCalls enc Try.prog 10 [5, 5, 24] := by
  intro W base args ds p hval hA
  obtain ⟨v0, vs0, d0, ds0, p0, q0, hargs, rfl, rfl, h0, r0⟩ := trodAll_cons hA
  obtain ⟨v1, vs1, d1, ds1, p1, q1, rfl, rfl, rfl, h1, r1⟩ := trodAll_cons r0
  obtain ⟨v2, vs2, d2, ds2, p2, q2, rfl, rfl, rfl, h2, r2⟩ := trodAll_cons r1
  obtain ⟨rfl, rfl, rfl⟩ := trodAll_nil r2
  obtain rfl : args = #[v0, v1, v2] := by cases args; simp_all
  obtain ⟨x0, rfl, _, _, o0⟩ := open_int Try.underlying5 (hval 0 5 v0 rfl rfl) h0
  obtain ⟨x1, rfl, _, _, o1⟩ := open_int Try.underlying5 (hval 1 5 v1 rfl rfl) h1
  obtain ⟨x2, rfl, o2⟩ := open_raw Try.underlying24 Try.underlying22 cells24 cells22 (hval 2 24 v2 rfl rfl) h2
  have b0 := Go.EL.wf_u8 o0
  have b1 := Go.EL.wf_u8 o1
  obtain ⟨n0, rfl⟩ := Int.eq_ofNat_of_zero_le b0.1
  obtain ⟨n1, rfl⟩ := Int.eq_ofNat_of_zero_le b1.1
  exact (cMonomialAll n0 n1 _ _ _ (by omega) (by omega) rfl rfl rfl x2 o2).law W _ (imm_none W) trivial
theorem hMonomialAll : Rows.MonomialAllSaid := by
  refine OpenClaim.holds_of_wide 10 Try.f10 rfl rfl rfl rfl rfl rfl rfl ⟨rfl, rfl, rfl, rfl, rfl⟩ rfl rfl rfl rfl rfl (by kernel_rfl) Try.func10 (by kernel_rfl)
    (of_decide_eq_true (by kernel_rfl)) (by unfold Func.isWrapper; first | (rw [if_pos (by decide +kernel)]; kernel_rfl) | (rw [if_neg (by decide +kernel)]; exact ⟨rfl, rfl⟩)) (fun os started H enc _ => ?_)
  refine law_lifted (s := Rows.monomialAllSpec) ownK started (by kernel_rfl) Try.func10 (ChangeSpec.witness6 (enc := enc) (C := Try.checked) false ⟨#[], #[.int .u8 0, .int .u8 0, .agg (vecU zeroM)], []⟩ 8 (by kernel_rfl) (by kernel_rfl) (by kernel_rfl) (by kernel_rfl)) laidK (by kernel_rfl) rfl Try.underlying4 rfl (fun ds h => ?_) ?_
  · match ds, h with
    | [_, _, _], _ => rfl
  · exact wMonomialAll enc

end Go.Proofs.Ytdpmpefjplfgbaa
