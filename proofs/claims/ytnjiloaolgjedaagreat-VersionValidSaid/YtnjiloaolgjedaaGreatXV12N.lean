/- The law VersionValid holds for every input: the given statement. No condition. -/
import Derived.Test.YtnjiloaolgjedaaGreatXV12c
import Derived.Test.YtnjiloaolgjedaaGreatXV12d
import Derived.Test.YtnjiloaolgjedaaGreatXV12b
import Derived.Test.YtnjiloaolgjedaaGreatXV12g
set_option linter.unusedVariables false
set_option linter.unusedSimpArgs false
namespace Go.Proofs.YtnjiloaolgjedaaGreat
open Go.IntKind (i8 i16 i32 i64 u8 u16 u32 u64)
open Go.Proofs.Tryz
open Go Go.EL Go.RowKit Go.ChangeShapes Go.WideShapes Go.ChangeAt
set_option maxRecDepth 100000 in
theorem wVersionValid{H:Type}(enc:TypeId×Value->H):LawCalls enc prog 4 [25,60,3]:=by
 intro W base args ds p hval hA
 obtain⟨v0,vs0,d0,ds0,p0,q0,hargs,rfl,rfl,h0,r0⟩:=trodAll_cons hA
 obtain⟨v1,vs1,d1,ds1,p1,q1,rfl,rfl,rfl,h1,r1⟩:=trodAll_cons r0
 obtain⟨v2,vs2,d2,ds2,p2,q2,rfl,rfl,rfl,h2,r2⟩:=trodAll_cons r1
 obtain⟨rfl,rfl,rfl⟩:=trodAll_nil r2
 obtain rfl:args = #[v0,v1,v2]:=by cases args; simp_all
 obtain⟨x0,sp0,sc0,vp0,vc0,rfl,s0,sv0,o0⟩:=ZnT (hval 0 25 v0 rfl rfl) h0
 obtain⟨f1,rfl,o1⟩:=Zm4 (hval 1 60 v1 rfl rfl) h1
 obtain⟨x2,rfl,_,_,o2⟩:=open_int underlying3 (hval 2 3 v2 rfl rfl) h2
 exact (Zf3 x0 f1 x2 sp0 sc0 vp0 vc0 true (Ziu o0 (fun i=>wf_u8 (o1 i)) (wf_i64 o2))).law W _ (Zpr W) ⟨s0,sv0⟩
theorem hVersionValid:Rows.VersionValidSaid:=by
 refine OpenClaim.holds_of_wide 4 Tryz.f4 rfl rfl rfl rfl rfl rfl rfl ⟨rfl,rfl,rfl,rfl,rfl⟩ rfl rfl rfl rfl rfl (by kernel_rfl) func4 (by kernel_rfl)
  (of_decide_eq_true (by kernel_rfl)) (by unfold Func.isWrapper; first|(rw[if_pos (by decide +kernel)]; kernel_rfl)|(rw[if_neg (by decide +kernel)]; exact⟨rfl,rfl⟩)) (fun os started H enc _=>?_)
 refine Zm0 (s:=Rows.versionValidSpec) ownK started (by kernel_rfl) func4 (ChangeSpec.witness6 (enc:=enc) (C:=Tryz.checked) false ⟨#[],#[.agg #[.slice none 0 0,.slice none 0 0],.agg #[.int .u8 0,.int .u8 0],.int .i64 0],[]⟩ 8 (by kernel_rfl) (by kernel_rfl) (by kernel_rfl) (by kernel_rfl)) laidK (by kernel_rfl) rfl underlying4 rfl (fun ds h=>?_) ?_
 .match ds,h with
  | [_,_,_],_=>rfl
 exact wVersionValid enc
end Go.Proofs.YtnjiloaolgjedaaGreat

