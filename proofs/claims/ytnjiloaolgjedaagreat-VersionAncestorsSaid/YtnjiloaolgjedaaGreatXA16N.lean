/- The law VersionAncestors holds for every input: the given statement. No condition. -/
import Derived.Test.YtnjiloaolgjedaaGreatXA16c
import Derived.Test.YtnjiloaolgjedaaGreatXA16d
import Derived.Test.YtnjiloaolgjedaaGreatXA16b
import Derived.Test.YtnjiloaolgjedaaGreatXA16g
set_option linter.unusedVariables false
set_option linter.unusedSimpArgs false
namespace Go.Proofs.YtnjiloaolgjedaaGreat
open Go.IntKind (i8 i16 i32 i64 u8 u16 u32 u64)
open Go.Proofs.Tryz
open Go Go.EL Go.RowKit Go.ChangeShapes Go.WideShapes Go.ChangeAt
set_option maxRecDepth 100000 in
theorem wVersionAncestors{H:Type}(enc:TypeId×Value->H):LawCalls enc prog 8 [25]:=by
 intro W base args ds p hval hA
 obtain⟨v0,vs0,d0,ds0,p0,q0,hargs,rfl,rfl,h0,r0⟩:=trodAll_cons hA
 obtain⟨rfl,rfl,rfl⟩:=trodAll_nil r0
 obtain rfl:args = #[v0]:=by cases args; simp_all
 obtain⟨x0,sp0,sc0,vp0,vc0,rfl,s0,sv0,o0⟩:=ZnD (hval 0 25 v0 rfl rfl) h0
 exact (Zeg x0 sp0 sc0 vp0 vc0 true (Zgd o0)).law W _ (Zo2 W) ⟨s0,sv0⟩
theorem hVersionAncestors:Rows.VersionAncestorsSaid:=by
 refine OpenClaim.holds_of_wide 8 Tryz.f8 rfl rfl rfl rfl rfl rfl rfl ⟨rfl,rfl,rfl,rfl,rfl⟩ rfl rfl rfl rfl rfl (by kernel_rfl) func8 (by kernel_rfl)
  (of_decide_eq_true (by kernel_rfl)) (by unfold Func.isWrapper; first|(rw[if_pos (by decide +kernel)]; kernel_rfl)|(rw[if_neg (by decide +kernel)]; exact⟨rfl,rfl⟩)) (fun os started H enc _=>?_)
 refine ZmL (s:=Rows.versionAncestorsSpec) ownK started (by kernel_rfl) func8 (ChangeSpec.witness6 (enc:=enc) (C:=Tryz.checked) false ⟨#[],#[.agg #[.slice none 0 0,.slice none 0 0]],[]⟩ 8 (by kernel_rfl) (by kernel_rfl) (by kernel_rfl) (by kernel_rfl)) laidK (by kernel_rfl) rfl underlying4 rfl (fun ds h=>?_) ?_
 .match ds,h with
  | [_],_=>rfl
 exact wVersionAncestors enc
end Go.Proofs.YtnjiloaolgjedaaGreat

