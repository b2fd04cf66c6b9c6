/- The law MergeExchange holds for every input: the given statement. No condition. -/
import Derived.Test.YtdigmacmdlpckaaGreatXE13c
import Derived.Test.YtdigmacmdlpckaaGreatXE13d
import Derived.Test.YtdigmacmdlpckaaGreatXE13b
import Derived.Test.YtdigmacmdlpckaaGreatXE13g
import Derived.Test.YtdigmacmdlpckaaGreatXE13h
set_option linter.unusedVariables false
set_option linter.unusedSimpArgs false
namespace Go.Proofs.YtdigmacmdlpckaaGreat
open Go.IntKind (i8 i16 i32 i64 u8 u16 u32 u64)
open Go.Proofs.Tryz
open Go Go.EL Go.RowKit Go.ChangeShapes Go.WideShapes Go.ChangeAt
set_option maxRecDepth 100000 in
theorem wMergeExchange{H:Type}(enc:TypeId×Value->H):qw enc prog 3 [24]:=by
 intro W base args w p a r
 obtain⟨m,u,d0,n,p0,y,c,rfl,rfl,q,s⟩:=trodAll_cons r
 obtain⟨rfl,rfl,rfl⟩:=trodAll_nil s
 obtain rfl:args = #[m]:=by cases args; simp_all
 obtain⟨v,e,d,i,h,l,j,rfl,t,f,g,o0⟩:=YG (a 0 24 m rfl rfl) q
 exact (TO v e d i h l j true (UN o0)).law W _ (ZuL W) ⟨t,f,g⟩
set_option maxRecDepth 100000 in
theorem hMergeExchange:Rows.MergeExchangeSaid:=by
 refine OpenClaim.holds_of_wide 3 Tryz.f3 rfl rfl rfl rfl rfl rfl rfl ⟨rfl,rfl,rfl,rfl,rfl⟩ rfl rfl rfl rfl rfl (by kernel_rfl) func3 jAll
  (of_decide_eq_true (by kernel_rfl)) (by unfold Func.isWrapper; first|(rw[if_pos (by decide +kernel)]; kernel_rfl)|(rw[if_neg (by decide +kernel)]; exact⟨rfl,rfl⟩)) (λos a H enc _=>?_)
 refine Yy (s:=Rows.mergeExchangeSpec) Lj a (by kernel_rfl) func3 (ChangeSpec.witness6 (enc:=enc) (C:=Tryz.checked) false ⟨#[],#[.agg #[.slice none 0 0,.slice none 0 0,.slice none 0 0]],[]⟩ 8 (by kernel_rfl) (by kernel_rfl) (by kernel_rfl) (by kernel_rfl)) CC (by kernel_rfl) rfl underlying4 rfl (λc h=>?_) ?_
 .match c,h with
  | [_],_=>rfl
 exact wMergeExchange enc
end Go.Proofs.YtdigmacmdlpckaaGreat

