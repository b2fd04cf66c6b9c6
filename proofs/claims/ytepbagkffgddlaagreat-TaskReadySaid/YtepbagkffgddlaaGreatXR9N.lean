/- The law TaskReady holds for every input: the given statement. No condition. -/
import Derived.Test.YtepbagkffgddlaaGreatXR9c
import Derived.Test.YtepbagkffgddlaaGreatXR9e
import Derived.Test.YtepbagkffgddlaaGreatXR9b
import Derived.Test.YtepbagkffgddlaaGreatXR9h
set_option linter.unusedVariables false
set_option linter.unusedSimpArgs false
namespace Go.Proofs.YtepbagkffgddlaaGreat
open Go.IntKind (i8 i16 i32 i64 u8 u16 u32 u64)
open Go.Proofs.Tryz
open Go Go.EL Go.RowKit Go.ChangeShapes Go.WideShapes Go.ChangeAt
set_option maxRecDepth 100000 in
theorem wTaskReady{H:Type}(enc:TypeId×Value->H):nN enc prog 8 [22]:=by
 intro W base args m p a i;obtain⟨f,l,d0,g,p0,n,c,rfl,rfl,h,j⟩:=trodAll_cons i;obtain⟨rfl,rfl,rfl⟩:=trodAll_nil j;obtain rfl:args = #[f]:=by cases args;simp_all
 obtain⟨e,d,l0,rfl,k,o0⟩:=Zvv (a 0 22 f rfl rfl) h;exact(Pb l0 e d true (ZpC o0)).law W _ (ZzN W) k
set_option maxRecDepth 100000 in
theorem hTaskReady:Rows.TaskReadySaid:=by
 refine OpenClaim.holds_of_wide 8 Tryz.f8 rfl rfl rfl rfl rfl rfl rfl ⟨rfl,rfl,rfl,rfl,rfl⟩ rfl rfl rfl rfl rfl İ func8 jAll
  (of_decide_eq_true İ) (by unfold Func.isWrapper;first|(rw[if_pos (by decide +kernel)];kernel_rfl)|(rw[if_neg (by decide +kernel)];exact⟨rfl,rfl⟩)) (λos a H enc _=>?_)
 refine Zvn (s:=Rows.taskReadySpec) Oe a İ func8 (ChangeSpec.witness6 (enc:=enc) (C:=Tryz.checked) false ⟨#[],#[.slice none 0 0],[]⟩ 8 İ İ İ İ) CC İ rfl underlying4 rfl (λc h=>?_) ?_
 .match c,h with
  |[_],_=>rfl
 exact wTaskReady enc
end Go.Proofs.YtepbagkffgddlaaGreat

