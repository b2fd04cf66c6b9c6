/- The given statement ComponentsDimensions, out of the lifted contract. No condition. -/
import Derived.Test.YtbdknlblnfnkkaaNa
import Derived.Test.YtbdknlblnfnkkaaEF
import Derived.Test.YtbdknlblnfnkkaaLComponentsDimensions
import Derived.Test.YtbdknlblnfnkkaaPJ
namespace Go.Proofs.Ytbdknlblnfnkkaa
open Go Go.EL Go.RowKit Go.ChangeShapes Go.WideShapes Go.ChangeAt
set_option maxRecDepth 100000 in
theorem wComponentsDimensions {H : Type} (enc : TypeId × Value → H) : LawCalls enc Try.prog 10 [25] := by
  intro W base args ds p hval hA
  obtain ⟨v0, vs0, d0, ds0, p0, q0, hargs, rfl, rfl, h0, r0⟩ := trodAll_cons hA
  obtain ⟨rfl, rfl, rfl⟩ := trodAll_nil r0
  obtain rfl : args = #[v0] := by cases args; simp_all
  obtain ⟨sp0, sc0, l0, n0, rfl, s0, o0, w0⟩ := open_slInt (r := Rp.vec .u8 4) Try.underlying25 rfl rfl (by kernel_rfl) (by kernel_rfl) (by kernel_rfl) (by kernel_rfl) Try.underlying23 Try.underlying5 (by kernel_rfl) (Opens.vec Try.underlying65 Try.underlying5 (by kernel_rfl) (by kernel_rfl)) (hval 0 25 v0 rfl rfl) h0
  exact (L_law21_ComponentsDimensions ⟨l0, n0⟩ sp0 sc0 true (dim_law_ret (wf_u8 w0) (fun v hv j => wf_u8 (o0 v hv j)))).law W _ (imm_all W) s0
theorem hComponentsDimensions : Rows.ComponentsDimensionsSaid := by
  refine OpenClaim.holds_of_wide 10 Try.f10 rfl rfl rfl rfl rfl rfl rfl ⟨rfl, rfl, rfl, rfl, rfl⟩ rfl rfl rfl rfl rfl (by kernel_rfl) Try.func10 (by kernel_rfl)
    (of_decide_eq_true (by kernel_rfl)) (by unfold Func.isWrapper; first | (rw [if_pos (by decide +kernel)]; kernel_rfl) | (rw [if_neg (by decide +kernel)]; exact ⟨rfl, rfl⟩)) (fun os started H enc _ => ?_)
  refine law_lifted (s := Rows.componentsDimensionsSpec) ownK started (by kernel_rfl) Try.func10 (ChangeSpec.witness6 (enc := enc) (C := Try.checked) false ⟨#[], #[.agg #[.slice none 0 0, .int .u8 0]], []⟩ 8 (by kernel_rfl) (by kernel_rfl) (by kernel_rfl) (by kernel_rfl)) laidK (by kernel_rfl) rfl Try.underlying4 rfl (fun ds h => ?_) ?_
  · match ds, h with
    | [_], _ => rfl
  · exact wComponentsDimensions enc
end Go.Proofs.Ytbdknlblnfnkkaa
