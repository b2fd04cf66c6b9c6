/- The law SystemSolutions holds for every input: the given statement. No condition. -/
import Derived.Test.YtgllmhmhldlemaaGreatXS15c
import Derived.Test.YtgllmhmhldlemaaGreatXS15d
import Derived.Test.YtgllmhmhldlemaaGreatXS15b
import Derived.Test.YtgllmhmhldlemaaGreatXS15g
set_option linter.unusedVariables false
set_option linter.unusedSimpArgs false
namespace Go.Proofs.YtgllmhmhldlemaaGreat
open Go.IntKind (i8 i16 i32 i64 u8 u16 u32 u64)
open Go.Proofs.Tryz
open Go Go.EL Go.RowKit Go.ChangeShapes Go.WideShapes Go.ChangeAt
set_option maxRecDepth 100000 in
theorem wSystemSolutions{H:Type}(enc:TypeId×Value->H):LawCalls enc prog 3 [25,29]:=by
 intro W base args ds p hval hA
 obtain⟨v0,vs0,d0,ds0,p0,q0,hargs,rfl,rfl,h0,r0⟩:=trodAll_cons hA
 obtain⟨v1,vs1,d1,ds1,p1,q1,rfl,rfl,rfl,h1,r1⟩:=trodAll_cons r0
 obtain⟨rfl,rfl,rfl⟩:=trodAll_nil r1
 obtain rfl:args = #[v0,v1]:=by cases args; simp_all
 obtain⟨x0,sp0,sc0,vp0,vc0,rfl,s0,sv0,o0⟩:=ZmX (hval 0 25 v0 rfl rfl) h0
 obtain⟨cs1,l1,rfl,s1,o1,u1⟩:=ZoZ (hval 1 29 v1 rfl rfl) h1
 exact (ZeM x0 l1 sp0 sc0 vp0 vc0 cs1 () true (Zgp o0 ⟨o1,u1⟩)).law W _ (ZpK W) ⟨s0,sv0,s1⟩
set_option maxRecDepth 100000 in
theorem hSystemSolutions:Rows.SystemSolutionsSaid:=by
 refine OpenClaim.holds_of_wide 3 Tryz.f3 rfl rfl rfl rfl rfl rfl rfl ⟨rfl,rfl,rfl,rfl,rfl⟩ rfl rfl rfl rfl rfl (by kernel_rfl) func3 jAll
  (of_decide_eq_true (by kernel_rfl)) (by unfold Func.isWrapper; first|(rw[if_pos (by decide +kernel)]; kernel_rfl)|(rw[if_neg (by decide +kernel)]; exact⟨rfl,rfl⟩)) (fun os started H enc _=>?_)
 refine ZmR (s:=Rows.systemSolutionsSpec) ownK started (by kernel_rfl) func3 (ChangeSpec.witness6 (enc:=enc) (C:=Tryz.checked) false ⟨#[],#[.agg #[.int .u8 0,.slice none 0 0,.slice none 0 0],.agg #[.int .i8 0,.int .i8 0,.int .u8 0,.int .i8 0,.int .i8 0,.int .u8 0,.int .i8 0,.int .i8 0,.int .u8 0]],[]⟩ 8 (by kernel_rfl) (by kernel_rfl) (by kernel_rfl) (by kernel_rfl)) laidK (by kernel_rfl) rfl underlying4 rfl (fun ds h=>?_) ?_
 .match ds,h with
  | [_,_],_=>rfl
 exact wSystemSolutions enc
end Go.Proofs.YtgllmhmhldlemaaGreat

