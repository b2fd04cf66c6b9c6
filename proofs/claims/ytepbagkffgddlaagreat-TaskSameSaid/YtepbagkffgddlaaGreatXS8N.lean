/- The law TaskSame holds for every input: the given statement. No condition. -/
import Derived.Test.YtepbagkffgddlaaGreatXS8c
import Derived.Test.YtepbagkffgddlaaGreatXS8e
import Derived.Test.YtepbagkffgddlaaGreatXS8b
import Derived.Test.YtepbagkffgddlaaGreatXS8h
set_option linter.unusedVariables false
set_option linter.unusedSimpArgs false
namespace Go.Proofs.YtepbagkffgddlaaGreat
open Go.IntKind (i8 i16 i32 i64 u8 u16 u32 u64)
open Go.Proofs.Tryz
open Go Go.EL Go.RowKit Go.ChangeShapes Go.WideShapes Go.ChangeAt
set_option maxRecDepth 100000 in
theorem wTaskSame{H:Type}(enc:TypeId×Value->H):nM enc prog 5 [22,40,5]:=by
 intro W base args L p a y;obtain⟨n,F,d0,s,p0,N,g,rfl,rfl,v,A⟩:=trodAll_cons y;obtain⟨q,G,d1,t,p1,O,rfl,rfl,rfl,x,B⟩:=trodAll_cons A;obtain⟨r,I,d2,u,p2,P,rfl,rfl,rfl,h2,C⟩:=trodAll_cons B;obtain⟨rfl,rfl,rfl⟩:=trodAll_nil C;obtain rfl:args = #[n,q,r]:=by cases args;simp_all
 obtain⟨m,l,l0,rfl,D,o0⟩:=Zvu (a 0 22 n rfl rfl) v;obtain⟨J,h,c,i,d,j,e,k,f,rfl,E,o1⟩:=Zw2 (a 1 40 q rfl rfl) x;obtain⟨K,rfl,_,_,o2⟩:=open_int underlying5 (a 2 5 r rfl rfl) h2;exact(Pq l0 J K m l h c i d j e k f true (Zre o0 o1 (wf_u8 o2))).law W _ (ZzL W) ⟨D,E⟩
set_option maxRecDepth 100000 in
theorem hTaskSame:Rows.TaskSameSaid:=by
 refine OpenClaim.holds_of_wide 5 Tryz.f5 rfl rfl rfl rfl rfl rfl rfl ⟨rfl,rfl,rfl,rfl,rfl⟩ rfl rfl rfl rfl rfl İ func5 jAll
  (of_decide_eq_true İ) (by unfold Func.isWrapper;first|(rw[if_pos (by decide +kernel)];kernel_rfl)|(rw[if_neg (by decide +kernel)];exact⟨rfl,rfl⟩)) (λos a H enc _=>?_)
 refine Zvm (s:=Rows.taskSameSpec) Ou a İ func5 (ChangeSpec.witness6 (enc:=enc) (C:=Tryz.checked) false ⟨#[],#[.slice none 0 0,.agg #[.int .u8 0,.int .u8 0,.slice none 0 0,.slice none 0 0,.int .u8 0,.slice none 0 0,.int .u8 0,.slice none 0 0,.int .i64 0,.int .i64 0],.int .u8 0],[]⟩ 8 İ İ İ İ) CM İ rfl underlying4 rfl (λc h=>?_) ?_
 .match c,h with
  |[_,_,_],_=>rfl
 exact wTaskSame enc
end Go.Proofs.YtepbagkffgddlaaGreat

