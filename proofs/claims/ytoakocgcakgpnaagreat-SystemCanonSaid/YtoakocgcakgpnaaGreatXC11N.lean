/- The law SystemCanon holds for every input: the given statement. No condition. -/
import Derived.Test.YtoakocgcakgpnaaGreatXC11c
import Derived.Test.YtoakocgcakgpnaaGreatXC11d
import Derived.Test.YtoakocgcakgpnaaGreatXC11b
import Derived.Test.YtoakocgcakgpnaaGreatXC11g
set_option linter.unusedVariables false
set_option linter.unusedSimpArgs false
namespace Go.Proofs.YtoakocgcakgpnaaGreat
open Go.IntKind (i8 i16 i32 i64 u8 u16 u32 u64)
open Go.Proofs.Tryz
open Go Go.EL Go.RowKit Go.ChangeShapes Go.WideShapes Go.ChangeAt
set_option maxRecDepth 100000 in
theorem wSystemCanon{H:Type}(enc:TypeId×Value->H):LawCalls enc prog 4 [37]:=by
 intro W base args ds p hval hA
 obtain⟨v0,vs0,d0,ds0,p0,q0,hargs,rfl,rfl,h0,r0⟩:=trodAll_cons hA
 obtain⟨rfl,rfl,rfl⟩:=trodAll_nil r0
 obtain rfl:args = #[v0]:=by cases args; simp_all
 obtain⟨x0,sp0,sc0,vp0,vc0,rfl,s0,sv0,o0⟩:=ZlF (hval 0 37 v0 rfl rfl) h0
 exact (ZfW x0 sp0 sc0 vp0 vc0 true (ZhT o0)).law W _ (ZnF W) ⟨s0,sv0⟩
theorem hSystemCanon:Rows.SystemCanonSaid:=by
 refine OpenClaim.holds_of_wide 4 Tryz.f4 rfl rfl rfl rfl rfl rfl rfl ⟨rfl,rfl,rfl,rfl,rfl⟩ rfl rfl rfl rfl rfl (by kernel_rfl) func4 (by kernel_rfl)
  (of_decide_eq_true (by kernel_rfl)) (by unfold Func.isWrapper; first|(rw[if_pos (by decide +kernel)]; kernel_rfl)|(rw[if_neg (by decide +kernel)]; exact⟨rfl,rfl⟩)) (fun os started H enc _=>?_)
 refine ZlB (s:=Rows.systemCanonSpec) ownK started (by kernel_rfl) func4 (ChangeSpec.witness6 (enc:=enc) (C:=Tryz.checked) false ⟨#[],#[.agg #[.int .u8 0,.slice none 0 0,.slice none 0 0]],[]⟩ 8 (by kernel_rfl) (by kernel_rfl) (by kernel_rfl) (by kernel_rfl)) laidK (by kernel_rfl) rfl underlying4 rfl (fun ds h=>?_) ?_
 .match ds,h with
  | [_],_=>rfl
 exact wSystemCanon enc
end Go.Proofs.YtoakocgcakgpnaaGreat

