/- The law SystemNormal holds for every input: the given statement. No condition. -/
import Derived.Test.YtoakocgcakgpnaaGreatXN12c
import Derived.Test.YtoakocgcakgpnaaGreatXN12d
import Derived.Test.YtoakocgcakgpnaaGreatXN12b
import Derived.Test.YtoakocgcakgpnaaGreatXN12e
set_option linter.unusedVariables false
set_option linter.unusedSimpArgs false
namespace Go.Proofs.YtoakocgcakgpnaaGreat
open Go.IntKind (i8 i16 i32 i64 u8 u16 u32 u64)
open Go.Proofs.Tryz
open Go Go.EL Go.RowKit Go.ChangeShapes Go.WideShapes Go.ChangeAt
set_option maxRecDepth 100000 in
theorem wSystemNormal{H:Type}(enc:TypeId×Value->H):LawCalls enc prog 3 [23,3]:=by
 intro W base args ds p hval hA
 obtain⟨v0,vs0,d0,ds0,p0,q0,hargs,rfl,rfl,h0,r0⟩:=trodAll_cons hA
 obtain⟨v1,vs1,d1,ds1,p1,q1,rfl,rfl,rfl,h1,r1⟩:=trodAll_cons r0
 obtain⟨rfl,rfl,rfl⟩:=trodAll_nil r1
 obtain rfl:args = #[v0,v1]:=by cases args; simp_all
 obtain⟨cs0,l0,rfl,s0,o0,u0⟩:=Zj5 (hval 0 23 v0 rfl rfl) h0
 obtain⟨x1,rfl,_,_,o1⟩:=open_int underlying3 (hval 1 3 v1 rfl rfl) h1
 exact (Zep l0 x1 cs0 () true (Zgm ⟨o0,u0⟩ (wf_i64 o1))).law W _ (Zl3 W) s0
theorem hSystemNormal:Rows.SystemNormalSaid:=by
 refine OpenClaim.holds_of_wide 3 Tryz.f3 rfl rfl rfl rfl rfl rfl rfl ⟨rfl,rfl,rfl,rfl,rfl⟩ rfl rfl rfl rfl rfl (by kernel_rfl) func3 (by kernel_rfl)
  (of_decide_eq_true (by kernel_rfl)) (by unfold Func.isWrapper; first|(rw[if_pos (by decide +kernel)]; kernel_rfl)|(rw[if_neg (by decide +kernel)]; exact⟨rfl,rfl⟩)) (fun os started H enc _=>?_)
 refine Zj2 (s:=Rows.systemNormalSpec) ownK started (by kernel_rfl) func3 (ChangeSpec.witness6 (enc:=enc) (C:=Tryz.checked) false ⟨#[],#[.agg #[.slice none 0 0,.slice none 0 0],.int .i64 0],[]⟩ 8 (by kernel_rfl) (by kernel_rfl) (by kernel_rfl) (by kernel_rfl)) laidK (by kernel_rfl) rfl underlying4 rfl (fun ds h=>?_) ?_
 .match ds,h with
  | [_,_],_=>rfl
 exact wSystemNormal enc
end Go.Proofs.YtoakocgcakgpnaaGreat

