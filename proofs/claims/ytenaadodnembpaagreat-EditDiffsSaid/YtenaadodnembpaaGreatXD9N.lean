/- The law EditDiffs holds for every input: the given statement. No condition. -/
import Derived.Test.YtenaadodnembpaaGreatXD9c
import Derived.Test.YtenaadodnembpaaGreatXD9d
import Derived.Test.YtenaadodnembpaaGreatXD9g
set_option linter.unusedVariables false
set_option linter.unusedSimpArgs false
namespace Go.Proofs.YtenaadodnembpaaGreat
open Go Go.EL Go.RowKit Go.ChangeShapes Go.WideShapes Go.ChangeAt
set_option maxRecDepth 100000 in
theorem wEditDiffs{H:Type}(enc:TypeId×Value→H):LawCalls enc Tryz.prog 9 [22,22]:=by
 intro W base args ds p hval hA
 obtain⟨v0,vs0,d0,ds0,p0,q0,hargs,rfl,rfl,h0,r0⟩:=trodAll_cons hA
 obtain⟨v1,vs1,d1,ds1,p1,q1,rfl,rfl,rfl,h1,r1⟩:=trodAll_cons r0
 obtain⟨rfl,rfl,rfl⟩:=trodAll_nil r1
 obtain rfl:args = #[v0,v1]:=by cases args; simp_all
 obtain⟨sp0,sc0,l0,rfl,s0,o0⟩:=ZjN (hval 0 22 v0 rfl rfl) h0
 obtain⟨sp1,sc1,l1,rfl,s1,o1⟩:=ZjN (hval 1 22 v1 rfl rfl) h1
 exact (ZgN l0 l1 sp0 sc0 sp1 sc1 true (Zi0 ⟨o0⟩ ⟨o1⟩)).law W _ (Zna W) ⟨s0,s1⟩
theorem hEditDiffs:Rows.EditDiffsSaid:=by
 refine OpenClaim.holds_of_wide 9 Tryz.f9 rfl rfl rfl rfl rfl rfl rfl ⟨rfl,rfl,rfl,rfl,rfl⟩ rfl rfl rfl rfl rfl (by kernel_rfl) Tryz.func9 (by kernel_rfl)
  (of_decide_eq_true (by kernel_rfl)) (by unfold Func.isWrapper; first|(rw[if_pos (by decide +kernel)]; kernel_rfl)|(rw[if_neg (by decide +kernel)]; exact⟨rfl,rfl⟩)) (fun os started H enc _=>?_)
 refine Zlj (s:=Rows.editDiffsSpec) ownK started (by kernel_rfl) Tryz.func9 (ChangeSpec.witness6 (enc:=enc) (C:=Tryz.checked) false ⟨#[],#[.slice none 0 0,.slice none 0 0],[]⟩ 8 (by kernel_rfl) (by kernel_rfl) (by kernel_rfl) (by kernel_rfl)) laidK (by kernel_rfl) rfl Tryz.underlying4 rfl (fun ds h=>?_) ?_
 ·match ds,h with
  | [_,_],_=>rfl
 ·exact wEditDiffs enc
end Go.Proofs.YtenaadodnembpaaGreat

