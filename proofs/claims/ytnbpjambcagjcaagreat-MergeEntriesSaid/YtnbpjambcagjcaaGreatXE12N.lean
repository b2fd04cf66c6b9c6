/- The law MergeEntries holds for every input: the given statement. No condition. -/
import Derived.Test.YtnbpjambcagjcaaGreatXE12c
import Derived.Test.YtnbpjambcagjcaaGreatXE12d
import Derived.Test.YtnbpjambcagjcaaGreatXE12b
import Derived.Test.YtnbpjambcagjcaaGreatXE12g
set_option linter.unusedVariables false
set_option linter.unusedSimpArgs false
namespace Go.Proofs.YtnbpjambcagjcaaGreat
open Go.IntKind (i8 i16 i32 i64 u8 u16 u32 u64)
open Go.Proofs.Tryz
open Go Go.EL Go.RowKit Go.ChangeShapes Go.WideShapes Go.ChangeAt
set_option maxRecDepth 100000 in
theorem wMergeEntries{H:Type}(enc:TypeId×Value->H):LawCalls enc prog 5 [24]:=by
 intro W base args ds p hval hA
 obtain⟨v0,vs0,d0,ds0,p0,q0,hargs,rfl,rfl,h0,r0⟩:=trodAll_cons hA
 obtain⟨rfl,rfl,rfl⟩:=trodAll_nil r0
 obtain rfl:args = #[v0]:=by cases args; simp_all
 obtain⟨x0,sp0,sc0,tp0,tc0,vp0,vc0,rfl,s0,st0,su0,o0⟩:=ZnN (hval 0 24 v0 rfl rfl) h0
 exact (ZfD x0 sp0 sc0 tp0 tc0 vp0 vc0 true (Zif o0)).law W _ (Zqh W) ⟨s0,st0,su0⟩
theorem hMergeEntries:Rows.MergeEntriesSaid:=by
 refine OpenClaim.holds_of_wide 5 Tryz.f5 rfl rfl rfl rfl rfl rfl rfl ⟨rfl,rfl,rfl,rfl,rfl⟩ rfl rfl rfl rfl rfl (by kernel_rfl) func5 (by kernel_rfl)
  (of_decide_eq_true (by kernel_rfl)) (by unfold Func.isWrapper; first|(rw[if_pos (by decide +kernel)]; kernel_rfl)|(rw[if_neg (by decide +kernel)]; exact⟨rfl,rfl⟩)) (fun os started H enc _=>?_)
 refine ZnJ (s:=Rows.mergeEntriesSpec) ownK started (by kernel_rfl) func5 (ChangeSpec.witness6 (enc:=enc) (C:=Tryz.checked) false ⟨#[],#[.agg #[.slice none 0 0,.slice none 0 0,.slice none 0 0]],[]⟩ 8 (by kernel_rfl) (by kernel_rfl) (by kernel_rfl) (by kernel_rfl)) laidK (by kernel_rfl) rfl underlying4 rfl (fun ds h=>?_) ?_
 .match ds,h with
  | [_],_=>rfl
 exact wMergeEntries enc
end Go.Proofs.YtnbpjambcagjcaaGreat

