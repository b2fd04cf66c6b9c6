/- The law VersionCommits holds for every input: the given statement. No condition. -/
import Derived.Test.YtnjiloaolgjedaaGreatXC14c
import Derived.Test.YtnjiloaolgjedaaGreatXC14d
import Derived.Test.YtnjiloaolgjedaaGreatXC14b
import Derived.Test.YtnjiloaolgjedaaGreatXC14g
set_option linter.unusedVariables false
set_option linter.unusedSimpArgs false
namespace Go.Proofs.YtnjiloaolgjedaaGreat
open Go.IntKind (i8 i16 i32 i64 u8 u16 u32 u64)
open Go.Proofs.Tryz
open Go Go.EL Go.RowKit Go.ChangeShapes Go.WideShapes Go.ChangeAt
set_option maxRecDepth 100000 in
theorem wVersionCommits{H:Type}(enc:TypeId×Value->H):LawCalls enc prog 6 [25,70,5]:=by
 intro W base args ds p hval hA
 obtain⟨v0,vs0,d0,ds0,p0,q0,hargs,rfl,rfl,h0,r0⟩:=trodAll_cons hA
 obtain⟨v1,vs1,d1,ds1,p1,q1,rfl,rfl,rfl,h1,r1⟩:=trodAll_cons r0
 obtain⟨v2,vs2,d2,ds2,p2,q2,rfl,rfl,rfl,h2,r2⟩:=trodAll_cons r1
 obtain⟨rfl,rfl,rfl⟩:=trodAll_nil r2
 obtain rfl:args = #[v0,v1,v2]:=by cases args; simp_all
 obtain⟨x0,sp0,sc0,vp0,vc0,rfl,s0,sv0,o0⟩:=ZnR (hval 0 25 v0 rfl rfl) h0
 obtain⟨cs1,l1,rfl,s1,o1,u1⟩:=Zm2 (hval 1 70 v1 rfl rfl) h1
 obtain⟨x2,rfl,_,_,o2⟩:=open_int underlying5 (hval 2 5 v2 rfl rfl) h2
 exact (Zff x0 l1 x2 sp0 sc0 vp0 vc0 cs1 () true (ZgY o0 ⟨o1,u1⟩ (wf_u8 o2))).law W _ (Zpj W) ⟨s0,sv0,s1⟩
theorem hVersionCommits:Rows.VersionCommitsSaid:=by
 refine OpenClaim.holds_of_wide 6 Tryz.f6 rfl rfl rfl rfl rfl rfl rfl ⟨rfl,rfl,rfl,rfl,rfl⟩ rfl rfl rfl rfl rfl (by kernel_rfl) func6 (by kernel_rfl)
  (of_decide_eq_true (by kernel_rfl)) (by unfold Func.isWrapper; first|(rw[if_pos (by decide +kernel)]; kernel_rfl)|(rw[if_neg (by decide +kernel)]; exact⟨rfl,rfl⟩)) (fun os started H enc _=>?_)
 refine ZmX (s:=Rows.versionCommitsSpec) ownK started (by kernel_rfl) func6 (ChangeSpec.witness6 (enc:=enc) (C:=Tryz.checked) false ⟨#[],#[.agg #[.slice none 0 0,.slice none 0 0],.agg #[.slice none 0 0,.slice none 0 0],.int .u8 0],[]⟩ 8 (by kernel_rfl) (by kernel_rfl) (by kernel_rfl) (by kernel_rfl)) laidK (by kernel_rfl) rfl underlying4 rfl (fun ds h=>?_) ?_
 .match ds,h with
  | [_,_,_],_=>rfl
 exact wVersionCommits enc
end Go.Proofs.YtnjiloaolgjedaaGreat

