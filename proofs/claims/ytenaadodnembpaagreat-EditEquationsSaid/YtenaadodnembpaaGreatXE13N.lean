/- The law EditEquations holds for every input: the given statement. No condition. -/
import Derived.Test.YtenaadodnembpaaGreatXE13c
import Derived.Test.YtenaadodnembpaaGreatXE13d
import Derived.Test.YtenaadodnembpaaGreatXE13g
set_option linter.unusedVariables false
set_option linter.unusedSimpArgs false
namespace Go.Proofs.YtenaadodnembpaaGreat
open Go Go.EL Go.RowKit Go.ChangeShapes Go.WideShapes Go.ChangeAt
set_option maxRecDepth 100000 in
theorem wEditEquations {H:Type} (enc:TypeId×Value→H):LawCalls enc Tryz.prog 7 [22,22]:=by
 intro W base args ds p hval hA
 obtain ⟨v0,vs0,d0,ds0,p0,q0,hargs,rfl,rfl,h0,r0⟩:=trodAll_cons hA
 obtain ⟨v1,vs1,d1,ds1,p1,q1,rfl,rfl,rfl,h1,r1⟩:=trodAll_cons r0
 obtain ⟨rfl,rfl,rfl⟩:=trodAll_nil r1
 obtain rfl:args = #[v0,v1]:=by cases args; simp_all
 obtain ⟨sp0,sc0,l0,rfl,s0,o0⟩:=open_raw (hval 0 22 v0 rfl rfl) h0
 obtain ⟨sp1,sc1,l1,rfl,s1,o1⟩:=open_raw (hval 1 22 v1 rfl rfl) h1
 exact (L_law33_EditEquations l0 l1 sp0 sc0 sp1 sc1 true (EditEquations_law ⟨o0⟩ ⟨o1⟩)).law W _ (imm_all W) ⟨s0,s1⟩
theorem hEditEquations:Rows.EditEquationsSaid:=by
 refine OpenClaim.holds_of_wide 7 Tryz.f7 rfl rfl rfl rfl rfl rfl rfl ⟨rfl,rfl,rfl,rfl,rfl⟩ rfl rfl rfl rfl rfl (by kernel_rfl) Tryz.func7 (by kernel_rfl)
  (of_decide_eq_true (by kernel_rfl)) (by unfold Func.isWrapper; first|(rw [if_pos (by decide +kernel)]; kernel_rfl)|(rw [if_neg (by decide +kernel)]; exact ⟨rfl,rfl⟩)) (fun os started H enc _=>?_)
 refine law_lifted (s:=Rows.editEquationsSpec) ownK started (by kernel_rfl) Tryz.func7 (ChangeSpec.witness6 (enc:=enc) (C:=Tryz.checked) false ⟨#[],#[.slice none 0 0,.slice none 0 0],[]⟩ 8 (by kernel_rfl) (by kernel_rfl) (by kernel_rfl) (by kernel_rfl)) laidK (by kernel_rfl) rfl Tryz.underlying4 rfl (fun ds h=>?_) ?_
 ·match ds,h with
  | [_,_],_=>rfl
 ·exact wEditEquations enc
end Go.Proofs.YtenaadodnembpaaGreat

