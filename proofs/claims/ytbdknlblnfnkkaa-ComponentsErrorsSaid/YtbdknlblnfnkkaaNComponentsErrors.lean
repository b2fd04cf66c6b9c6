/- The given statement ComponentsErrors, out of the lifted contract. No condition. -/
import Derived.Test.YtbdknlblnfnkkaaNa
import Derived.Test.YtbdknlblnfnkkaaLComponentsErrors
import Derived.Test.YtbdknlblnfnkkaaPi
namespace Go.Proofs.Ytbdknlblnfnkkaa
open Go Go.EL Go.RowKit Go.ChangeShapes Go.WideShapes Go.ChangeAt
set_option maxRecDepth 100000 in
theorem wComponentsErrors {H : Type} (enc : TypeId × Value → H) : LawCalls enc Try.prog 9 [3, 5, 3] := by
  intro W base args ds p hval hA
  obtain ⟨v0, vs0, d0, ds0, p0, q0, hargs, rfl, rfl, h0, r0⟩ := trodAll_cons hA
  obtain ⟨v1, vs1, d1, ds1, p1, q1, rfl, rfl, rfl, h1, r1⟩ := trodAll_cons r0
  obtain ⟨v2, vs2, d2, ds2, p2, q2, rfl, rfl, rfl, h2, r2⟩ := trodAll_cons r1
  obtain ⟨rfl, rfl, rfl⟩ := trodAll_nil r2
  obtain rfl : args = #[v0, v1, v2] := by cases args; simp_all
  obtain ⟨x0, rfl, _, _, o0⟩ := open_int Try.underlying3 (hval 0 3 v0 rfl rfl) h0
  obtain ⟨x1, rfl, _, _, o1⟩ := open_int Try.underlying5 (hval 1 5 v1 rfl rfl) h1
  obtain ⟨x2, rfl, _, _, o2⟩ := open_int Try.underlying3 (hval 2 3 v2 rfl rfl) h2
  exact (L_law21_ComponentsErrors x0 x1 x2 true (errors_ret (by have := wf_u8 o1; omega))).law W _ (imm_none W) trivial
theorem hComponentsErrors : Rows.ComponentsErrorsSaid := by
  refine OpenClaim.holds_of_wide 9 Try.f9 rfl rfl rfl rfl rfl rfl rfl ⟨rfl, rfl, rfl, rfl, rfl⟩ rfl rfl rfl rfl rfl (by kernel_rfl) Try.func9 (by kernel_rfl)
    (of_decide_eq_true (by kernel_rfl)) (by unfold Func.isWrapper; first | (rw [if_pos (by decide +kernel)]; kernel_rfl) | (rw [if_neg (by decide +kernel)]; exact ⟨rfl, rfl⟩)) (fun os started H enc _ => ?_)
  refine law_lifted (s := Rows.componentsErrorsSpec) ownK started (by kernel_rfl) Try.func9 (ChangeSpec.witness6 (enc := enc) (C := Try.checked) false ⟨#[], #[.int .i64 0, .int .u8 0, .int .i64 0], []⟩ 8 (by kernel_rfl) (by kernel_rfl) (by kernel_rfl) (by kernel_rfl)) laidK (by kernel_rfl) rfl Try.underlying4 rfl (fun ds h => ?_) ?_
  · match ds, h with
    | [_, _, _], _ => rfl
  · exact wComponentsErrors enc
end Go.Proofs.Ytbdknlblnfnkkaa
