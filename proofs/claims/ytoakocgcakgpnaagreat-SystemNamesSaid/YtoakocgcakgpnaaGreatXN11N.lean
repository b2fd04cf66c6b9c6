/- The law SystemNames holds for every input: the given statement. No condition. -/
import Derived.Test.YtoakocgcakgpnaaGreatXN11c
import Derived.Test.YtoakocgcakgpnaaGreatXN11b
import Derived.Test.YtoakocgcakgpnaaGreatXN11e
set_option linter.unusedVariables false
set_option linter.unusedSimpArgs false
namespace Go.Proofs.YtoakocgcakgpnaaGreat
open Go.IntKind (i8 i16 i32 i64 u8 u16 u32 u64)
open Go.Proofs.Tryz
open Go Go.EL Go.RowKit Go.ChangeShapes Go.WideShapes Go.ChangeAt
set_option maxRecDepth 100000 in
theorem wSystemNames{H:Type}(enc:TypeId×Value->H):LawCalls enc prog 7 [9,9]:=by
 intro W base args ds p hval hA
 obtain⟨v0,vs0,d0,ds0,p0,q0,hargs,rfl,rfl,h0,r0⟩:=trodAll_cons hA
 obtain⟨v1,vs1,d1,ds1,p1,q1,rfl,rfl,rfl,h1,r1⟩:=trodAll_cons r0
 obtain⟨rfl,rfl,rfl⟩:=trodAll_nil r1
 obtain rfl:args = #[v0,v1]:=by cases args; simp_all
 obtain⟨x0,rfl⟩:=Zg9 (hval 0 9 v0 rfl rfl)
 obtain⟨x1,rfl⟩:=Zg9 (hval 1 9 v1 rfl rfl)
 exact (Zd2 x0 x1 true (Zfs x0 x1)).law W _ (Zkb W) trivial
theorem hSystemNames:Rows.SystemNamesSaid:=by
 refine OpenClaim.holds_of_wide 7 Tryz.f7 rfl rfl rfl rfl rfl rfl rfl ⟨rfl,rfl,rfl,rfl,rfl⟩ rfl rfl rfl rfl rfl (by kernel_rfl) func7 (by kernel_rfl)
  (of_decide_eq_true (by kernel_rfl)) (by unfold Func.isWrapper; first|(rw[if_pos (by decide +kernel)]; kernel_rfl)|(rw[if_neg (by decide +kernel)]; exact⟨rfl,rfl⟩)) (fun os started H enc _=>?_)
 refine Zic (s:=Rows.systemNamesSpec) ownK started (by kernel_rfl) func7 (ChangeSpec.witness6 (enc:=enc) (C:=Tryz.checked) false ⟨#[],#[.string ByteArray.empty,.string ByteArray.empty],[]⟩ 8 (by kernel_rfl) (by kernel_rfl) (by kernel_rfl) (by kernel_rfl)) laidK (by kernel_rfl) rfl underlying4 rfl (fun ds h=>?_) ?_
 .match ds,h with
  | [_,_],_=>rfl
 exact wSystemNames enc
end Go.Proofs.YtoakocgcakgpnaaGreat

