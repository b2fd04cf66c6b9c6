/- The law TaskLearns holds for every input: the given statement. No condition. -/
import Derived.Test.YtepbagkffgddlaaGreatXL10c
import Derived.Test.YtepbagkffgddlaaGreatXL10e
import Derived.Test.YtepbagkffgddlaaGreatXL10b
import Derived.Test.YtepbagkffgddlaaGreatXL10h
set_option linter.unusedVariables false
set_option linter.unusedSimpArgs false
namespace Go.Proofs.YtepbagkffgddlaaGreat
open Go.IntKind (i8 i16 i32 i64 u8 u16 u32 u64)
open Go.Proofs.Tryz
open Go Go.EL Go.RowKit Go.ChangeShapes Go.WideShapes Go.ChangeAt
set_option maxRecDepth 100000 in
theorem wTaskLearns{H:Type}(enc:TypeId×Value->H):nU enc prog 7 [22,40]:=by
 intro W base args F p a v;obtain⟨n,C,d0,r,p0,G,g,rfl,rfl,t,x⟩:=trodAll_cons v;obtain⟨q,D,d1,s,p1,I,rfl,rfl,rfl,u,y⟩:=trodAll_cons x;obtain⟨rfl,rfl,rfl⟩:=trodAll_nil y;obtain rfl:args = #[n,q]:=by cases args;simp_all
 obtain⟨m,l,l0,rfl,A,o0⟩:=ZvV (a 0 22 n rfl rfl) t;obtain⟨E,h,c,i,d,j,e,k,f,rfl,B,o1⟩:=Zxy (a 1 40 q rfl rfl) u;exact(Pf l0 E m l h c i d j e k f true (Zn8 o0 o1)).law W _ (ZAj W) ⟨A,B⟩
set_option maxRecDepth 100000 in
theorem hTaskLearns:Rows.TaskLearnsSaid:=by
 refine OpenClaim.holds_of_wide 7 Tryz.f7 rfl rfl rfl rfl rfl rfl rfl ⟨rfl,rfl,rfl,rfl,rfl⟩ rfl rfl rfl rfl rfl İ func7 jAll
  (of_decide_eq_true İ) (by unfold Func.isWrapper;first|(rw[if_pos (by decide +kernel)];kernel_rfl)|(rw[if_neg (by decide +kernel)];exact⟨rfl,rfl⟩)) (λos a H enc _=>?_)
 refine ZvM (s:=Rows.taskLearnsSpec) Ol a İ func7 (ChangeSpec.witness6 (enc:=enc) (C:=Tryz.checked) false ⟨#[],#[.slice none 0 0,.agg #[.int .u8 0,.int .u8 0,.slice none 0 0,.slice none 0 0,.int .u8 0,.slice none 0 0,.int .u8 0,.slice none 0 0,.int .i64 0,.int .i64 0]],[]⟩ 8 İ İ İ İ) CO İ rfl underlying4 rfl (λc h=>?_) ?_
 .match c,h with
  |[_,_],_=>rfl
 exact wTaskLearns enc
end Go.Proofs.YtepbagkffgddlaaGreat

