/- The law TaskValid holds for every input: the given statement. No condition. -/
import Derived.Test.YtepbagkffgddlaaGreatXV9c
import Derived.Test.YtepbagkffgddlaaGreatXV9e
import Derived.Test.YtepbagkffgddlaaGreatXV9b
import Derived.Test.YtepbagkffgddlaaGreatXV9h
set_option linter.unusedVariables false
set_option linter.unusedSimpArgs false
namespace Go.Proofs.YtepbagkffgddlaaGreat
open Go.IntKind (i8 i16 i32 i64 u8 u16 u32 u64)
open Go.Proofs.Tryz
open Go Go.EL Go.RowKit Go.ChangeShapes Go.WideShapes Go.ChangeAt
set_option maxRecDepth 100000 in
theorem wTaskValid{H:Type}(enc:TypeId×Value->H):nX enc prog 4 [22,62]:=by
 intro W base args u p a l;obtain⟨f,r,d0,h,p0,v,c,rfl,rfl,j,m⟩:=trodAll_cons l;obtain⟨g,s,d1,i,p1,x,rfl,rfl,rfl,k,n⟩:=trodAll_cons m;obtain⟨rfl,rfl,rfl⟩:=trodAll_nil n;obtain rfl:args = #[f,g]:=by cases args;simp_all
 obtain⟨e,d,l0,rfl,q,o0⟩:=ZvS (a 0 22 f rfl rfl) j;obtain⟨t,rfl,o1⟩:=ZyA (a 1 62 g rfl rfl) k;exact(Zk5 l0 t e d true (ZpR o0 (wf_u8 o1.1))).law W _ (Zz0 W) q
set_option maxRecDepth 100000 in
theorem hTaskValid:Rows.TaskValidSaid:=by
 refine OpenClaim.holds_of_wide 4 Tryz.f4 rfl rfl rfl rfl rfl rfl rfl ⟨rfl,rfl,rfl,rfl,rfl⟩ rfl rfl rfl rfl rfl İ func4 jAll
  (of_decide_eq_true İ) (by unfold Func.isWrapper;first|(rw[if_pos (by decide +kernel)];kernel_rfl)|(rw[if_neg (by decide +kernel)];exact⟨rfl,rfl⟩)) (λos a H enc _=>?_)
 refine ZvL (s:=Rows.taskValidSpec) OC a İ func4 (ChangeSpec.witness6 (enc:=enc) (C:=Tryz.checked) false ⟨#[],#[.slice none 0 0,.agg #[.int .u8 0,.int .u8 0,.int .i64 0]],[]⟩ 8 İ İ İ İ) CU İ rfl underlying4 rfl (λc h=>?_) ?_
 .match c,h with
  |[_,_],_=>rfl
 exact wTaskValid enc
end Go.Proofs.YtepbagkffgddlaaGreat

