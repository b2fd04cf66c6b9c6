/- The law TaskMatchesReference holds for every input: the given statement. No condition. -/
import Derived.Test.YtepbagkffgddlaaGreatXMR20c
import Derived.Test.YtepbagkffgddlaaGreatXMR20e
import Derived.Test.YtepbagkffgddlaaGreatXMR20b
import Derived.Test.YtepbagkffgddlaaGreatXMR20h
set_option linter.unusedVariables false
set_option linter.unusedSimpArgs false
namespace Go.Proofs.YtepbagkffgddlaaGreat
open Go.IntKind (i8 i16 i32 i64 u8 u16 u32 u64)
open Go.Proofs.Tryz
open Go Go.EL Go.RowKit Go.ChangeShapes Go.WideShapes Go.ChangeAt
set_option maxRecDepth 100000 in
theorem wTaskMatchesReference{H:Type}(enc:TypeId×Value->H):nM enc prog 3 [22,3]:=by
 intro W base args u p a m;obtain⟨f,s,d0,i,p0,v,c,rfl,rfl,k,n⟩:=trodAll_cons m;obtain⟨g,t,d1,j,p1,x,rfl,rfl,rfl,l,q⟩:=trodAll_cons n;obtain⟨rfl,rfl,rfl⟩:=trodAll_nil q;obtain rfl:args = #[f,g]:=by cases args;simp_all
 obtain⟨e,d,l0,rfl,r,o0⟩:=ZvE (a 0 22 f rfl rfl) k;obtain⟨h,rfl,_,_,o1⟩:=open_int underlying3 (a 1 3 g rfl rfl) l;exact(O6 l0 h e d true (Zf4 o0 h)).law W _ (ZzR W) r
set_option maxRecDepth 100000 in
theorem hTaskMatchesReference:Rows.TaskMatchesReferenceSaid:=by
 refine OpenClaim.holds_of_wide 3 Tryz.f3 rfl rfl rfl rfl rfl rfl rfl ⟨rfl,rfl,rfl,rfl,rfl⟩ rfl rfl rfl rfl rfl İ func3 jAll
  (of_decide_eq_true İ) (by unfold Func.isWrapper;first|(rw[if_pos (by decide +kernel)];kernel_rfl)|(rw[if_neg (by decide +kernel)];exact⟨rfl,rfl⟩)) (λos a H enc _=>?_)
 refine Zvw (s:=Rows.taskMatchesReferenceSpec) Oa a İ func3 (ChangeSpec.witness6 (enc:=enc) (C:=Tryz.checked) false ⟨#[],#[.slice none 0 0,.int .i64 0],[]⟩ 8 İ İ İ İ) CC İ rfl underlying4 rfl (λc h=>?_) ?_
 .match c,h with
  |[_,_],_=>rfl
 exact wTaskMatchesReference enc
end Go.Proofs.YtepbagkffgddlaaGreat

