/- The law EditValid holds for every input: the given statement. No condition. -/
import Derived.Test.YtenaadodnembpaaGreatXV9c
import Derived.Test.YtenaadodnembpaaGreatXV9d
import Derived.Test.YtenaadodnembpaaGreatXV9g
namespace Go.Proofs.YtenaadodnembpaaGreat
open Go Go.EL Go.RowKit Go.ChangeShapes Go.WideShapes Go.ChangeAt
set_option maxRecDepth 100000 in
theorem wEditValid {H:Type} (enc:TypeId×Value→H):LawCalls enc Tryz.prog 4 [22,28]:=by
  intro W base args ds p hval hA
  obtain ⟨v0,vs0,d0,ds0,p0,q0,hargs,rfl,rfl,h0,r0⟩:=trodAll_cons hA
  obtain ⟨v1,vs1,d1,ds1,p1,q1,rfl,rfl,rfl,h1,r1⟩:=trodAll_cons r0
  obtain ⟨rfl,rfl,rfl⟩:=trodAll_nil r1
  obtain rfl:args = #[v0,v1]:=by cases args; simp_all
  obtain ⟨sp0,sc0,l0,rfl,s0,o0⟩:=open_raw (hval 0 22 v0 rfl rfl) h0
  obtain ⟨x1,sp1,sc1,rfl,s1,o1⟩:=open_odd (hval 1 28 v1 rfl rfl) h1
  exact (L_law33_EditValid l0 x1 sp0 sc0 sp1 sc1 true (EditValid_law ⟨o0⟩ o1)).law W _ (imm_all W) ⟨s0,s1⟩
theorem hEditValid:Rows.EditValidSaid:=by
  refine OpenClaim.holds_of_wide 4 Tryz.f4 rfl rfl rfl rfl rfl rfl rfl ⟨rfl,rfl,rfl,rfl,rfl⟩ rfl rfl rfl rfl rfl (by kernel_rfl) Tryz.func4 (by kernel_rfl)
    (of_decide_eq_true (by kernel_rfl)) (by unfold Func.isWrapper; first|(rw [if_pos (by decide +kernel)]; kernel_rfl)|(rw [if_neg (by decide +kernel)]; exact ⟨rfl,rfl⟩)) (fun os started H enc _=>?_)
  refine law_lifted (s:=Rows.editValidSpec) ownK started (by kernel_rfl) Tryz.func4 (ChangeSpec.witness6 (enc:=enc) (C:=Tryz.checked) false ⟨#[],#[.slice none 0 0,.agg #[.int .i8 0,.int .i8 0,.int .i8 0,.int .i8 0,.string ByteArray.empty,.slice none 0 0,.bool false]],[]⟩ 8 (by kernel_rfl) (by kernel_rfl) (by kernel_rfl) (by kernel_rfl)) laidK (by kernel_rfl) rfl Tryz.underlying4 rfl (fun ds h=>?_) ?_
  · match ds,h with
    | [_,_],_=>rfl
  · exact wEditValid enc
end Go.Proofs.YtenaadodnembpaaGreat

