/- The law SystemMatchesReference holds for every input: the given statement. No condition. -/
import Derived.Test.YtoakocgcakgpnaaGreatXMR22c
import Derived.Test.YtoakocgcakgpnaaGreatXMR22d
import Derived.Test.YtoakocgcakgpnaaGreatXMR22b
import Derived.Test.YtoakocgcakgpnaaGreatXMR22g
set_option linter.unusedVariables false
set_option linter.unusedSimpArgs false
namespace Go.Proofs.YtoakocgcakgpnaaGreat
open Go.IntKind (i8 i16 i32 i64 u8 u16 u32 u64)
open Go.Proofs.Tryz
open Go Go.EL Go.RowKit Go.ChangeShapes Go.WideShapes Go.ChangeAt
set_option maxRecDepth 100000 in
theorem wSystemMatchesReference{H:Type}(enc:TypeId×Value->H):LawCalls enc prog 8 [37,76,3]:=by
 intro W base args ds p hval hA
 obtain⟨v0,vs0,d0,ds0,p0,q0,hargs,rfl,rfl,h0,r0⟩:=trodAll_cons hA
 obtain⟨v1,vs1,d1,ds1,p1,q1,rfl,rfl,rfl,h1,r1⟩:=trodAll_cons r0
 obtain⟨v2,vs2,d2,ds2,p2,q2,rfl,rfl,rfl,h2,r2⟩:=trodAll_cons r1
 obtain⟨rfl,rfl,rfl⟩:=trodAll_nil r2
 obtain rfl:args = #[v0,v1,v2]:=by cases args; simp_all
 obtain⟨x0,sp0,sc0,vp0,vc0,rfl,s0,sv0,o0⟩:=Zl5 (hval 0 37 v0 rfl rfl) h0
 obtain⟨x1,rfl,o1,u1⟩:=Zk9 (hval 1 76 v1 rfl rfl) h1
 obtain⟨x2,rfl,_,_,o2⟩:=open_int underlying3 (hval 2 3 v2 rfl rfl) h2
 exact (Zci x0 x1 x2 sp0 sc0 vp0 vc0 true (Zdz o0 ⟨o1,u1⟩ (wf_i64 o2))).law W _ (Zoj W) ⟨s0,sv0⟩
theorem hSystemMatchesReference:Rows.SystemMatchesReferenceSaid:=by
 refine OpenClaim.holds_of_wide 8 Tryz.f8 rfl rfl rfl rfl rfl rfl rfl ⟨rfl,rfl,rfl,rfl,rfl⟩ rfl rfl rfl rfl rfl (by kernel_rfl) func8 (by kernel_rfl)
  (of_decide_eq_true (by kernel_rfl)) (by unfold Func.isWrapper; first|(rw[if_pos (by decide +kernel)]; kernel_rfl)|(rw[if_neg (by decide +kernel)]; exact⟨rfl,rfl⟩)) (fun os started H enc _=>?_)
 refine Zl1 (s:=Rows.systemMatchesReferenceSpec) ownK started (by kernel_rfl) func8 (ChangeSpec.witness6 (enc:=enc) (C:=Tryz.checked) false ⟨#[],#[.agg #[.int .u8 0,.slice none 0 0,.slice none 0 0],.agg #[.int .u8 0,.int .u8 0,.int .i64 0,.string ByteArray.empty],.int .i64 0],[]⟩ 8 (by kernel_rfl) (by kernel_rfl) (by kernel_rfl) (by kernel_rfl)) laidK (by kernel_rfl) rfl underlying4 rfl (fun ds h=>?_) ?_
 .match ds,h with
  | [_,_,_],_=>rfl
 exact wSystemMatchesReference enc
end Go.Proofs.YtoakocgcakgpnaaGreat

