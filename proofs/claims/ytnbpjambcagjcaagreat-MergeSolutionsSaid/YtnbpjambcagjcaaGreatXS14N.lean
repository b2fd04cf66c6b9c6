/- The law MergeSolutions holds for every input: the given statement. No condition. -/
import Derived.Test.YtnbpjambcagjcaaGreatXS14c
import Derived.Test.YtnbpjambcagjcaaGreatXS14d
import Derived.Test.YtnbpjambcagjcaaGreatXS14b
import Derived.Test.YtnbpjambcagjcaaGreatXS14g
set_option linter.unusedVariables false
set_option linter.unusedSimpArgs false
namespace Go.Proofs.YtnbpjambcagjcaaGreat
open Go.IntKind (i8 i16 i32 i64 u8 u16 u32 u64)
open Go.Proofs.Tryz
open Go Go.EL Go.RowKit Go.ChangeShapes Go.WideShapes Go.ChangeAt
set_option maxRecDepth 100000 in
theorem wMergeSolutions{H:Type}(enc:TypeId×Value->H):LawCalls enc prog 6 [24,52]:=by
 intro W base args ds p hval hA
 obtain⟨v0,vs0,d0,ds0,p0,q0,hargs,rfl,rfl,h0,r0⟩:=trodAll_cons hA
 obtain⟨v1,vs1,d1,ds1,p1,q1,rfl,rfl,rfl,h1,r1⟩:=trodAll_cons r0
 obtain⟨rfl,rfl,rfl⟩:=trodAll_nil r1
 obtain rfl:args = #[v0,v1]:=by cases args; simp_all
 obtain⟨x0,sp0,sc0,tp0,tc0,vp0,vc0,rfl,s0,st0,su0,o0⟩:=ZnN (hval 0 24 v0 rfl rfl) h0
 obtain⟨sp1,sc1,l1,rfl,s1,o1⟩:=Zor (hval 1 52 v1 rfl rfl) h1
 exact (ZeW x0 l1 sp0 sc0 tp0 tc0 vp0 vc0 sp1 sc1 true (ZgE o0 o1)).law W _ (Zqq W) ⟨s0,st0,su0,s1⟩
theorem hMergeSolutions:Rows.MergeSolutionsSaid:=by
 refine OpenClaim.holds_of_wide 6 Tryz.f6 rfl rfl rfl rfl rfl rfl rfl ⟨rfl,rfl,rfl,rfl,rfl⟩ rfl rfl rfl rfl rfl (by kernel_rfl) func6 (by kernel_rfl)
  (of_decide_eq_true (by kernel_rfl)) (by unfold Func.isWrapper; first|(rw[if_pos (by decide +kernel)]; kernel_rfl)|(rw[if_neg (by decide +kernel)]; exact⟨rfl,rfl⟩)) (fun os started H enc _=>?_)
 refine ZnI (s:=Rows.mergeSolutionsSpec) ownK started (by kernel_rfl) func6 (ChangeSpec.witness6 (enc:=enc) (C:=Tryz.checked) false ⟨#[],#[.agg #[.slice none 0 0,.slice none 0 0,.slice none 0 0],.slice none 0 0],[]⟩ 8 (by kernel_rfl) (by kernel_rfl) (by kernel_rfl) (by kernel_rfl)) laidK (by kernel_rfl) rfl underlying4 rfl (fun ds h=>?_) ?_
 .match ds,h with
  | [_,_],_=>rfl
 exact wMergeSolutions enc
end Go.Proofs.YtnbpjambcagjcaaGreat

