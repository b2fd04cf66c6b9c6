/- The law EditAll holds for every input: the given statement. No condition. -/
import Derived.Test.YtenaadodnembpaaGreatXA7c
import Derived.Test.YtenaadodnembpaaGreatXA7d
import Derived.Test.YtenaadodnembpaaGreatXA7g
set_option linter.unusedVariables false
set_option linter.unusedSimpArgs false
namespace Go.Proofs.YtenaadodnembpaaGreat
open Go Go.EL Go.RowKit Go.ChangeShapes Go.WideShapes Go.ChangeAt
set_option maxRecDepth 100000 in
theorem wEditAll {H:Type} (enc:TypeId×Value→H):LawCalls enc Tryz.prog 8 [22,22,28]:=by
 intro W base args ds p hval hA
 obtain ⟨v0,vs0,d0,ds0,p0,q0,hargs,rfl,rfl,h0,r0⟩:=trodAll_cons hA
 obtain ⟨v1,vs1,d1,ds1,p1,q1,rfl,rfl,rfl,h1,r1⟩:=trodAll_cons r0
 obtain ⟨v2,vs2,d2,ds2,p2,q2,rfl,rfl,rfl,h2,r2⟩:=trodAll_cons r1
 obtain ⟨rfl,rfl,rfl⟩:=trodAll_nil r2
 obtain rfl:args = #[v0,v1,v2]:=by cases args; simp_all
 obtain ⟨sp0,sc0,l0,rfl,s0,o0⟩:=open_raw (hval 0 22 v0 rfl rfl) h0
 obtain ⟨sp1,sc1,l1,rfl,s1,o1⟩:=open_raw (hval 1 22 v1 rfl rfl) h1
 obtain ⟨x2,sp2,sc2,rfl,s2,o2⟩:=open_odd (hval 2 28 v2 rfl rfl) h2
 exact (L_law33_EditAll l0 l1 x2 sp0 sc0 sp1 sc1 sp2 sc2 true (EditAll_law ⟨o0⟩ ⟨o1⟩ o2)).law W _ (imm_all W) ⟨s0,s1,s2⟩
theorem hEditAll:Rows.EditAllSaid:=by
 refine OpenClaim.holds_of_wide 8 Tryz.f8 rfl rfl rfl rfl rfl rfl rfl ⟨rfl,rfl,rfl,rfl,rfl⟩ rfl rfl rfl rfl rfl (by kernel_rfl) Tryz.func8 (by kernel_rfl)
  (of_decide_eq_true (by kernel_rfl)) (by unfold Func.isWrapper; first|(rw [if_pos (by decide +kernel)]; kernel_rfl)|(rw [if_neg (by decide +kernel)]; exact ⟨rfl,rfl⟩)) (fun os started H enc _=>?_)
 refine law_lifted (s:=Rows.editAllSpec) ownK started (by kernel_rfl) Tryz.func8 (ChangeSpec.witness6 (enc:=enc) (C:=Tryz.checked) false ⟨#[],#[.slice none 0 0,.slice none 0 0,.agg #[.int .i8 0,.int .i8 0,.int .i8 0,.int .i8 0,.string ByteArray.empty,.slice none 0 0,.bool false]],[]⟩ 8 (by kernel_rfl) (by kernel_rfl) (by kernel_rfl) (by kernel_rfl)) laidK (by kernel_rfl) rfl Tryz.underlying4 rfl (fun ds h=>?_) ?_
 ·match ds,h with
  | [_,_,_],_=>rfl
 ·exact wEditAll enc
end Go.Proofs.YtenaadodnembpaaGreat

