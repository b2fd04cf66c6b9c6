/- The law SystemRenamed holds for every input: the given statement. No condition. -/
import Derived.Test.YtoakocgcakgpnaaGreatXR13c
import Derived.Test.YtoakocgcakgpnaaGreatXR13d
import Derived.Test.YtoakocgcakgpnaaGreatXR13b
import Derived.Test.YtoakocgcakgpnaaGreatXR13g
set_option linter.unusedVariables false
set_option linter.unusedSimpArgs false
namespace Go.Proofs.YtoakocgcakgpnaaGreat
open Go.IntKind (i8 i16 i32 i64 u8 u16 u32 u64)
open Go.Proofs.Tryz
open Go Go.EL Go.RowKit Go.ChangeShapes Go.WideShapes Go.ChangeAt
set_option maxRecDepth 100000 in
theorem wSystemRenamed{H:Type}(enc:TypeId×Value->H):LawCalls enc prog 5 [37,5]:=by
 intro W base args ds p hval hA
 obtain⟨v0,vs0,d0,ds0,p0,q0,hargs,rfl,rfl,h0,r0⟩:=trodAll_cons hA
 obtain⟨v1,vs1,d1,ds1,p1,q1,rfl,rfl,rfl,h1,r1⟩:=trodAll_cons r0
 obtain⟨rfl,rfl,rfl⟩:=trodAll_nil r1
 obtain rfl:args = #[v0,v1]:=by cases args; simp_all
 obtain⟨x0,sp0,sc0,vp0,vc0,rfl,s0,sv0,o0⟩:=Zlr (hval 0 37 v0 rfl rfl) h0
 obtain⟨x1,rfl,_,_,o1⟩:=open_int underlying5 (hval 1 5 v1 rfl rfl) h1
 exact (ZeO x0 x1 sp0 sc0 vp0 vc0 true (ZgL o0 (wf_u8 o1))).law W _ (ZnD W) ⟨s0,sv0⟩
theorem hSystemRenamed:Rows.SystemRenamedSaid:=by
 refine OpenClaim.holds_of_wide 5 Tryz.f5 rfl rfl rfl rfl rfl rfl rfl ⟨rfl,rfl,rfl,rfl,rfl⟩ rfl rfl rfl rfl rfl (by kernel_rfl) func5 (by kernel_rfl)
  (of_decide_eq_true (by kernel_rfl)) (by unfold Func.isWrapper; first|(rw[if_pos (by decide +kernel)]; kernel_rfl)|(rw[if_neg (by decide +kernel)]; exact⟨rfl,rfl⟩)) (fun os started H enc _=>?_)
 refine Zln (s:=Rows.systemRenamedSpec) ownK started (by kernel_rfl) func5 (ChangeSpec.witness6 (enc:=enc) (C:=Tryz.checked) false ⟨#[],#[.agg #[.int .u8 0,.slice none 0 0,.slice none 0 0],.int .u8 0],[]⟩ 8 (by kernel_rfl) (by kernel_rfl) (by kernel_rfl) (by kernel_rfl)) laidK (by kernel_rfl) rfl underlying4 rfl (fun ds h=>?_) ?_
 .match ds,h with
  | [_,_],_=>rfl
 exact wSystemRenamed enc
end Go.Proofs.YtoakocgcakgpnaaGreat

