/- The law TaskValid holds for every input: a part of its proof (fY the code does, plain models, and fY they return). No condition. -/
import Derived.Tactics
import Derived.Deep.Quiet
import Derived.KernelRfl
import Derived.Below
import Derived.WalkKit
import Derived.Shelf.Abstract
import Derived.Deep.AppendSrc
import Derived.Scope
import Derived.ChangeKeysEq
import Derived.Laws.StructEq
import Derived.Shelf.SlSortCmp.NoneTotal
import Derived.Maps.Keyed
import Derived.Carry
import Derived.DeepKeys4
import Derived.Laws.BytesString
import Derived.Laws.MakeOwn
import Derived.StringKeys
import Derived.Laws.CopyRow
import Derived.Laws.Externs
import Derived.Maps.RangeRun
import Derived.ChangeSame
import Derived.JoinedOf
import Derived.JoinedAt
import Derived.RowKit3
import Derived.OpenShut
import Derived.ProofKit
import Derived.Deep.Slices
import Derived.Test.YtepbagkffgddlaaGreatRows
import Derived.RangeFuncGives
import Derived.RangeFuncIn
import Derived.RangeFuncLeaves
import Derived.TacticsIn
import Derived.OwnWalkIn
import Derived.Shelf.SortG.Plain
import Derived.Shelf.SortG.SortNone
import Derived.OrdersIn
import Derived.Shelf.SlLaysF
import Derived.Shelf.SlSortCmp.Pdq1
import Derived.Test.YtepbagkffgddlaaGreatProg
import Derived.Shelf.SlGeneric
import Derived.Shelf.SlLaysF0
import Derived.Ground.SlsfProg
set_option linter.unusedVariables false
set_option linter.unusedSimpArgs false
namespace Go
theorem ŉ{p:Prop}(h:p:=by omega):p:=h
theorem ĳ{p:Prop}(h:p:=by decide):p:=h
theorem İ{p:Prop}(h:p:=by kernel_rfl):p:=h
theorem ß{p:Prop}(h:p:=by simp):p:=h
theorem ab0{p:Prop}(h:p:=by simp;omega):p:=h
abbrev Ŀ:=List
abbrev ŀ:=Option
abbrev Ĳ:=ByteArray
abbrev Ā:=@List.length_append
abbrev ā:=@if_neg
abbrev Ă:=@List.getElem_mem
abbrev ă:=@decide_eq_true
abbrev Ą:=@List.getElem?_eq_getElem
abbrev ą:=@if_pos
abbrev Ć:=@List.all_eq_true
abbrev ć:=@List.length_map
abbrev Ĉ:=@decide_eq_false
abbrev ĉ:=@Bool.and_eq_true
abbrev Ċ:=@Nat.le_refl
abbrev ċ:=@List.getElem?_eq_some_iff
abbrev Č:=@List.length_take
abbrev č:=@List.take_succ_eq_append_getElem
abbrev Ď:=@List.mem_cons
abbrev ď:=@List.append_assoc
abbrev Đ:=@Option.some.injEq
abbrev đ:=@List.mem_singleton
abbrev Ē:=@congrArg
abbrev ē:=@Go.run_underlying
abbrev Ĕ:=@Int.toNat_natCast
abbrev ĕ:=@Array.getElem?_eq_some_iff
abbrev Ė:=@List.getElem?_append_left
abbrev ė:=@List.length_singleton
abbrev Ę:=@List.length_cons
abbrev ę:=@List.append_nil
abbrev Ě:=@decide_eq_true_eq
abbrev ě:=@List.take_of_length_le
abbrev Ĝ:=@Nat.zero_le
abbrev ĝ:=@List.not_mem_nil
abbrev Ğ:=@Option.map_some
abbrev ğ:=@List.mem_map
abbrev Ġ:=@List.getElem?_toArray
abbrev ġ:=@List.map_cons
abbrev Ģ:=@List.getD_eq_getElem?_getD
abbrev ģ:=@List.getElem?_append_right
abbrev Ĥ:=@of_decide_eq_true
abbrev ĥ:=@List.take_length
abbrev Ħ:=@List.mem_append
abbrev ħ:=@List.length_set
abbrev Ĩ:=@Nat.le_of_ble_eq_true
abbrev ĩ:=@Array.getElem?_modify
abbrev Ī:=@List.pairwise_iff_getElem
abbrev ī:=@Go.IntKind.wrap_i64
abbrev Ĭ:=@List.map_append
abbrev ĭ:=@List.getElem?_cons_succ
abbrev Į:=@List.size_toArray
abbrev į:=@List.drop_eq_getElem_cons
abbrev ı:=@List.pairwise_cons
abbrev Ĵ:=@List.getElem?_cons_zero
abbrev ĵ:=@Nat.not_lt_zero
abbrev Ķ:=@Bool.or_eq_true
abbrev ķ:=@List.nil_append
abbrev ĸ:=@Nat.eq_of_beq_eq_true
abbrev Ĺ:=@List.drop_eq_nil_of_le
abbrev ĺ:=@List.length_nil
abbrev Ļ:=@List.cons_append
abbrev ļ:=@List.length_replicate
abbrev Ľ:=@List.mem_range
abbrev ľ:=@List.length_drop
abbrev Ł:=@Bool.false_or
abbrev ł:=@Array.length_toList
abbrev Ń:=@List.mem_iff_getElem
abbrev ń:=@List.getElem?_eq_none
abbrev Ņ:=@List.take_append_drop
abbrev ņ:=@Nat.zero_add
abbrev Ň:=@List.mem_of_getElem?
abbrev ň:=@Array.getElem?_append_left
abbrev Ŋ:=@List.eq_nil_of_length_eq_zero
abbrev ŋ:=@Nat.le_trans
abbrev Ō:=@Array.getElem?_eq_getElem
abbrev ō:=@Nat.add_mul
abbrev Ŏ:=@List.getElem?_take
abbrev ŏ:=@Int.tmod_eq_emod_of_nonneg
abbrev Ő:=@List.mem_filter
abbrev ő:=@List.filter_cons
abbrev Œ:=@List.cons.injEq
abbrev œ:=@List.mem_of_mem_take
abbrev Ŕ:=@List.map_nil
abbrev ŕ:=@Int.lt_of_lt_of_le
abbrev Ŗ:=@Array.getElem?_setIfInBounds_ne
abbrev ŗ:=@Option.map_none
abbrev Ř:=@Bool.not_eq_true'
abbrev ř:=@List.take_zero
abbrev Ś:=@Option.getD_some
abbrev ś:=@List.flatMap_cons
abbrev Ŝ:=@Bool.false_eq_true
abbrev ŝ:=@Int.le_refl
abbrev Ş:=@Nat.add_assoc
abbrev ş:=@Nat.lt_or_ge
abbrev Š:=@Classical.byContradiction
abbrev š:=@List.length_pos_iff
abbrev Ţ:=@List.take_append_getElem
abbrev ţ:=@or_false
abbrev Ť:=@Bool.true_and
abbrev ť:=@Array.getElem?_setIfInBounds
abbrev Ŧ:=@Option.some.inj
abbrev ŧ:=@List.getElem?_drop
abbrev Ũ:=@Nat.lt_succ_self
abbrev ũ:=@decide_eq_decide
abbrev Ū:=@List.getElem_map
abbrev ū:=@List.pairwise_singleton
abbrev Ŭ:=@List.set_eq_take_append_cons_drop
abbrev ŭ:=@Bool.true_or
abbrev Ů:=@Bool.eq_false_iff
abbrev ů:=@List.map_congr_left
abbrev Ű:=@Nat.shiftRight_eq_div_pow
abbrev ű:=@List.flatMap_nil
abbrev Ų:=@Array.getElem?_setIfInBounds_self_of_lt
abbrev ų:=@getElem!_pos
abbrev Ŵ:=@List.getElem?_take_of_lt
abbrev ŵ:=@Go.cell_of_row
abbrev Ŷ:=@Bool.false_and
abbrev ŷ:=@dif_pos
abbrev Ÿ:=@List.ext_getElem?
abbrev Ź:=@List.length_range
abbrev ź:=@Array.ext'
abbrev Ż:=@Nat.min_eq_left
abbrev ż:=@List.getElem_of_mem
abbrev Ž:=@List.flatMap_append
abbrev ž:=@Array.getD_eq_getD_getElem?
abbrev du:=@Nat.zero_mul
abbrev dw:=@List.getElem_cons_zero
abbrev dz:=@Nat.testBit_lt_two_pow
abbrev dA:=@Prod.mk.injEq
abbrev dI:=@List.any_eq_true
abbrev dO:=@List.length_filter_le
abbrev dU:=@Int.mul_ediv_add_emod
abbrev dV:=@Nat.add_zero
abbrev ec:=@Nat.mul_le_mul_right
abbrev ei:=@List.pairwise_map
abbrev ej:=@List.pairwise_append
abbrev ek:=@Option.isSome_iff_exists
abbrev et:=@Int.mul_ediv_cancel_left
abbrev eu:=@List.getElem_append_left
abbrev ew:=@Array.toList_filter
abbrev ey:=@Array.contains_push
abbrev eF:=@Nat.div_eq_zero_iff
abbrev eG:=@List.eq_nil_iff_forall_not_mem
abbrev eH:=@List.Perm.refl
abbrev lv:=@Nat.mul_one
abbrev u1:=@List.take_append_of_le_length
abbrev x5:=@List.getElem_cons_succ
abbrev x9:=@Nat.mod_lt
abbrev aaa:=@Go.MapKept.run_getObj_map
abbrev aab:=@Int.le_trans
abbrev aac:=@List.map_map
abbrev aad:=@Nat.two_pow_pos
abbrev aae:=@List.getElem?_set
abbrev aaf:=@List.drop_length_add_append
abbrev aag:=@List.getElem_take
abbrev aah:=@Int.fdiv_eq_ediv_of_nonneg
abbrev aai:=@List.drop_length
abbrev aaj:=@List.getElem?_eq_none_iff
abbrev aak:=@List.mem_of_find?_eq_some
abbrev aal:=@Go.run_firstCells_some
abbrev aam:=@List.replicate_succ
abbrev aan:=@List.range_succ
abbrev aao:=@Array.ext_getElem?
abbrev aap:=@Go.Proofs.AnyF.pdqsortCmpFunc_none
abbrev aaq:=@Nat.lt_of_lt_of_le
abbrev aar:=@List.mem_cons_self
abbrev aas:=@Go.World.block_lt_of_cell?
abbrev aat:=@Nat.add_sub_cancel_left
abbrev aau:=@decide_eq_false_iff_not
abbrev aav:=@Int.eq_ofNat_of_zero_le
abbrev aaw:=@Int.one_mul
abbrev aax:=@List.findIdx?_eq_some_iff_getElem
abbrev aay:=@Nat.lt_trichotomy
abbrev aaz:=@Nat.le_succ_of_le
abbrev aaA:=@Array.size_append
abbrev aaB:=@Nat.sub_zero
abbrev aaC:=@Go.Result.andThen_ok
abbrev aaD:=@List.getElem?_map
abbrev aaE:=@Int.add_zero
abbrev aaF:=@Int.mul_comm
abbrev aaG:=@Bool.and_eq_false_iff
abbrev aaH:=@Array.getElem?_toList
abbrev aaI:=@Nat.blt_eq
abbrev aaJ:=@Array.toList_map
abbrev aaK:=@Int.not_lt
abbrev aaL:=@Nat.div_eq_of_lt
abbrev aaM:=@List.getElem?_of_mem
abbrev aaN:=@if_false
abbrev aaO:=@Array.getElem_toList
abbrev aaP:=@List.drop_append_of_le_length
abbrev aaQ:=@Nat.pow_le_pow_right
abbrev aaR:=@List.mem_of_mem_drop
abbrev aaS:=@List.nodup_cons
abbrev aaT:=@List.find?_some
abbrev aaU:=@Nat.zero_lt_one
abbrev aaV:=@Go.run_firstCells_none
abbrev aaW:=@Go.Code.wp_mono
abbrev aaX:=@Nat.le_of_eq
abbrev aaY:=@Nat.sub_self
abbrev aaZ:=@List.take_length_add_append
abbrev aa0:=@of_decide_eq_false
abbrev aa1:=@Go.Calls.mono
abbrev aa2:=@Go.run_loadCells_list
abbrev aa3:=@Nat.mul_le_mul
abbrev aa4:=@Go.size_zeroCells
abbrev aa5:=@Go.grownCap_le_maxLen
abbrev aa6:=@Nat.eq_zero_or_pos
abbrev aa7:=@List.drop_left
abbrev aa8:=@List.set_cons_zero
abbrev aa9:=@beq_iff_eq
abbrev aba:=@Int.natAbs_natCast
abbrev abb:=@List.filter_append
abbrev abc:=@Int.tdiv_eq_ediv_of_nonneg
abbrev abd:=@List.drop_zero
abbrev abe:=@List.exists_mem_of_ne_nil
abbrev abf:=@Int.mul_neg_of_pos_of_neg
abbrev abg:=@List.getElem_append_right
abbrev abh:=@Fin.ext
abbrev abi:=@Go.run_storeCells_at
abbrev abj:=@List.foldl_append
abbrev abk:=@Classical.not_not
abbrev abl:=@List.find?_append
abbrev abm:=@Array.getElem?_replicate
abbrev abn:=@Nat.lt_succ_iff_lt_or_eq
abbrev abo:=@List.all_cons
abbrev abp:=@List.Perm.eq_of_pairwise
abbrev abq:=@Go.mem_ready
abbrev abr:=@List.ext_getElem
abbrev abt:=@Nat.le_add_right
abbrev abu:=@List.map_toArray
abbrev abv:=@List.length_eq_zero_iff
abbrev abw:=@Go.IntKind.wrap_u64
abbrev abz:=@Go.Sem.run_bind
abbrev abA:=@Nat.mul_comm
abbrev abE:=@Bool.or_true
abbrev abG:=@Int.emod_nonneg
abbrev abH:=@List.Perm.of_eq
abbrev abI:=@List.find?_cons
abbrev abJ:=@Bool.eq_iff_iff
abbrev abK:=@Go.Value.slice.inj
abbrev abQ:=@List.take_left
abbrev abR:=@List.drop_drop
abbrev abT:=@Bool.and_true
abbrev abU:=@Bool.or_false
abbrev abV:=@Prod.ext
end Go
namespace Go.EL
open Go.IntKind (i8 i16 i32 i64 u8 u16 u32 u64)
open Go
abbrev Fr:=Ŀ (Nat×Value)
def Fr.get:Fr->Nat->ŀ Value
 |[],_=>none
 |p::r,t=>bif Nat.beq p.1 t then some p.2 else Fr.get r t
def Fr.ev(fr:Fr):Operand->ŀ Value
 |.tmp t=>fr.get t
 |.const v=>some v
 |.global g=>some (.pointer (some ⟨g,0,none⟩))
 |.func f=>some (.func (.func f) #[] #[])
def Fr.iy(fr:Fr):Ŀ Operand->ŀ (Ŀ Value)
 |[]=>some []
 |x::r=>match fr.ev x,Fr.iy fr r with
  |some v,some vs=>some (v::vs)
  |_,_=>none
structure Rel (N:Nat) (fr:Fr) (a:Act):Prop where
 defers:a.defers=[]
 size:a.tmps.size=N
 here:∀t v,fr.get t=some v->a.tmps[t]?=some v
theorem Rel.ev{N:Nat}{fr:Fr}{a:Act}{x:Operand}{v:Value}(h:Rel N fr a)(d:fr.ev x=some v):a.eval x=v:=by
 cases x with
 |tmp t=>simp only[Fr.ev]at d;simp[Act.eval,h.here t v d]
 |const c=>simpa[Fr.ev,Act.eval]using d
 |global g=>simpa[Fr.ev,Act.eval]using d
 |func f=>simpa[Fr.ev,Act.eval]using d
theorem Rel.iy{N:Nat}{fr:Fr}{a:Act}(h:Rel N fr a):∀(xs:Ŀ Operand) (vs:Ŀ Value),fr.iy xs=some vs->xs.map a.eval=vs
 |[],vs,e=>by simp[Fr.iy]at e;simp[e]
 |x::r,vs,e=>by
  simp only[Fr.iy]at e;split at e
  .rename_i v d c h2;simp only[Đ]at e;subst e;simp[h.ev c,Rel.iy h r d h2]
  cases e
theorem Rel.put{N:Nat}{fr:Fr}{a:Act}{d:Nat}(v:Value)(h:Rel N fr a)(i:d<N):Rel N ((d,v)::fr) (a.put (some d) v) where
 defers:=h.defers
 size:=by simp[Act.put,h.size]
 here:=by
  intro t u c;simp only[Fr.get]at c;cases f:Nat.beq d t with
  |true=>
   rw[f]at c;simp only[cond_true,Đ]at c;have:=ĸ f;subst this c;simp[Act.put,h.size,i]
  |false=>
   rw[f]at c;simp only[cond_false]at c;have g:d≠t:=λe=>by subst e;simp at f
   simp only[Act.put];rw[Ŗ g];exact h.here t u c
def Fr.sub(rF fr:Fr):Prop:=∀t v,rF.get t=some v->fr.get t=some v
theorem Fr.Zq(fr:Fr):Fr.sub [] fr:=λt v h=>by simp[Fr.get]at h
theorem Fr.Zi{rF fr:Fr}{t:Nat}{v:Value}(h:fr.get t=some v)(d:Fr.sub rF fr):Fr.sub ((t,v)::rF) fr:=by
 intro u x a;simp only[Fr.get]at a;cases c:Nat.beq t u with
 |true=>
  rw[c]at a;simp only[cond_true,Đ]at a;have:=ĸ c;subst this a;exact h
 |false=>
  rw[c]at a;simp only[cond_false]at a;exact d u x a
theorem Rel.weaken{N:Nat}{fr rF:Fr}{a:Act}(h:Rel N fr a)(c:Fr.sub rF fr):Rel N rF a:=⟨h.defers,h.size,λt v e=>h.here t v (c t v e)⟩
abbrev Ξ:=World->Prop
abbrev ï:=Exit->Act->World->Prop
def WC(P:Program)(N:Nat)(c:Code)(Q:ï)(fr:Fr)(S:Ξ):Prop:=∀a w,Rel N fr a->S w->c.wp P Q a w
def WE(N:Nat)(Q:ï)(e:Exit)(fr:Fr)(S:Ξ):Prop:=∀a w,Rel N fr a->S w->Q e a w
def WL(P:Program)(N:Nat)(ops:Array Oper)(Q:ï)(l:Ŀ Oper)(fr:Fr)(S:Ξ):Prop:=∀a w,Rel N fr a->S w->wpList P ops Q l a w
section
variable {P:Program}{N:Nat}{Q:ï}{fr:Fr}{S:Ξ}
theorem WC.seq{x y:Code}(h:WC P N x (Exit.then (y.wp P Q) Q) fr S):WC P N (.seq x y) Q fr S:=λa w c d=>wp_seq (h a w c d)
theorem WC.skip(h:WE N Q .normal fr S):WC P N .skip Q fr S:=λa w c d=>wp_skip (h a w c d)
theorem WC.exit{id:Nat}(h:WE N Q (.exit id) fr S):WC P N (.exit id) Q fr S:=λa w c d=>wp_exit (h a w c d)
theorem WC.ret(h:WE N Q .ret fr S):WC P N .ret Q fr S:=λa w c d=>wp_ret (h a w c d)
theorem WC.block{id:Nat}{c:Code}(h:WC P N c (Exit.inBlock id Q) fr S):WC P N (.block id c) Q fr S:=λa w d e=>wp_block (h a w d e)
theorem WC.region{id:Nat}{l:Ŀ Oper}(h:WL P N l.toArray Q l fr S):WC P N (.region id l.toArray false) Q fr S:=λa w c d=>wp_region_lit (h a w c d)
theorem WC.cond{c:Operand}{x y:Code}{b:Bool}(g:fr.ev c=some (.bool b))(i:b=true->WC P N x Q fr S)(h:b=false->WC P N y Q fr S):WC P N (.cond c x y) Q fr S:=
 λa w d f=>wp_cond_split (d.ev g) (λe=>i e a w d f) (λe=>h e a w d f)
theorem WC.Ê{c:Operand}{x y:Code}{p:Prop}[Decidable p](a:fr.ev c=some (.bool (decide p)))(f:p->WC P N x Q fr S)(d:¬p->WC P N y Q fr S):WC P N (.cond c x y) Q fr S:=
 WC.cond a (λe=>f (Ĥ e)) (λe=>d (aa0 e))
theorem WC.pW{c:Operand}{x y:Code}(a:fr.ev c=some (.bool true))(d:WC P N x Q fr S):WC P N (.cond c x y) Q fr S:=WC.cond a (λ_=>d) (λe=>by cases e)
theorem WC.pV{c:Operand}{x y:Code}(a:fr.ev c=some (.bool false))(d:WC P N y Q fr S):WC P N (.cond c x y) Q fr S:=WC.cond a (λe=>by cases e) (λ_=>d)
theorem WE.then{c:Code}(h:WC P N c Q fr S):WE N (Exit.then (c.wp P Q) Q) .normal fr S:=h
theorem WE.ä{K:Act->World->Prop}{id:Nat}(h:WE N Q (.exit id) fr S):WE N (Exit.then K Q) (.exit id) fr S:=h
theorem WE.gC{K:Act->World->Prop}(h:WE N Q .ret fr S):WE N (Exit.then K Q) .ret fr S:=h
theorem WE.inBlock{id:Nat}(h:WE N Q .normal fr S):WE N (Exit.inBlock id Q) .normal fr S:=h
theorem WE.gw{id:Nat}(h:WE N Q .ret fr S):WE N (Exit.inBlock id Q) .ret fr S:=h
theorem WE.Í{id:Nat}(h:WE N Q .normal fr S):WE N (Exit.inBlock id Q) (.exit id) fr S:=λa w c d=>by simp only[Exit.inBlock,if_true];exact h a w c d
theorem WL.ö{ops:Array Oper}{l:Ŀ Oper}{S':Ξ}(c:∀w,S w->S' w)(h:WL P N ops Q l fr S'):WL P N ops Q l fr S:=λa w d e=>h a w d (c w e)
theorem WC.ö{c:Code}{S':Ξ}(d:∀w,S w->S' w)(h:WC P N c Q fr S'):WC P N c Q fr S:=λa w e f=>h a w e (d w f)
theorem WE.ö{e:Exit}{S':Ξ}(c:∀w,S w->S' w)(h:WE N Q e fr S'):WE N Q e fr S:=λa w d f=>h a w d (c w f)
theorem WL.nil{ops:Array Oper}(h:WE N Q .normal fr S):WL P N ops Q [] fr S:=h
def H6{X:Type}(N:Nat)(F:X->Fr)(I:X->Ξ)(m:X->Nat)(x:X):Act->World->Prop:=λa w=>∃x',Rel N (F x') a/\I x' w/\m x'<m x
theorem least{p:Nat->Prop}(h:∃n,p n):∃n,p n/\∀k,p k->n<=k:=by
 obtain⟨n,d⟩:=h;induction n using Nat.strongRecOn with
 |_ n e=>
  by_cases a:∃k,k<n/\p k
  .obtain⟨k,c,h2⟩:=a;exact e k c h2
  refine⟨n,d,λk hp=>?_⟩;rcases ş k n with h|h
  .exact absurd ⟨k,h,hp⟩ a
  exact h
theorem WC.loop{c:Code}{X:Type}(F:X->Fr)(I:X->Ξ)(m:X->Nat)(d:X)(p:Fr.sub (F d) fr)(q:∀w,S w->I d w)
  (round:∀x,WC P N c (Exit.then (H6 N F I m x) Q) (F x) (I x)):WC P N (.loop c) Q fr S:=by
 classical
 intro a w r s
 have f:∀a w,(∃x,Rel N (F x) a/\I x w)->∃n,∃x,(Rel N (F x) a/\I x w)/\m x=n:=λa w ⟨x,h⟩=>⟨m x,x,h,rfl⟩
 let μ:Act->World->Nat:=λa w=>if h:∃x,Rel N (F x) a/\I x w then Classical.choose (least (f a w h))else 0
 refine wp_loop (λa w=>∃x,Rel N (F x) a/\I x w) μ ⟨d,r.weaken p,q w s⟩ ?_
 intro a w h
 obtain⟨x,⟨i,j⟩,k⟩:=(Classical.choose_spec (least (f a w h))).1
 have t:μ a w=m x:=by simp only[μ,ŷ h];exact k.symm
 refine aaW (λe a' w' l=>?_) (round x a w i j)
 cases e<;>first|exact l|skip
 obtain⟨x',g,h2,h3⟩:=l
 refine⟨⟨x',g,h2⟩,?_⟩
 have h':∃x,Rel N (F x) a'/\I x w':=⟨x',g,h2⟩
 have:μ a' w'<=m x':=by simp only[μ,ŷ h'];exact(Classical.choose_spec (least (f a' w' h'))).2 _ ⟨x',⟨g,h2⟩,rfl⟩
 omega
end
def Y0(P:Program)(N:Nat)(o:Oper)(fr:Fr)(S:Ξ)(v:Value):Prop:=∀a w,Rel N fr a->S w->(execOp a.eval o).run P w=.ok (.value v) w
def YS(P:Program)(N:Nat)(o:Oper)(fr:Fr)(S S':Ξ):Prop:=∀a w,Rel N fr a->S w->∃w',(execOp a.eval o).run P w=.ok .skip w'/\S' w'
def YC(P:Program)(N:Nat)(o:Oper)(fr:Fr)(S:Ξ)(f:FuncId)(args:Array Value):Prop:=∀a w,Rel N fr a->S w->(execOp a.eval o).run P w=.ok (.enter f args) w
section
variable {P:Program}{N:Nat}{Q:ï}{fr:Fr}{S:Ξ}{ops:Array Oper}{l:Ŀ Oper}
def ξ(ops:Array Oper)(fr:Fr)(o:Oper)(b:Bool):Prop:=
 match o.guard with
 |none=>b=true
 |some (j,a)=>(∃d c,(ops[j]?).bind (·.dst)=some d/\fr.get d=some (.bool c)/\b=(c == a))\/(∃d,(ops[j]?).bind (·.dst)=some d/\fr.get d=some undef/\b=false)
theorem Rel.wanted{a:Act}{o:Oper}{b:Bool}(h:Rel N fr a)(e:ξ ops fr o b):Region.wanted o (yielded ops a.tmps)=b:=by
 unfold ξ at e;unfold Region.wanted;cases i:o.guard with
 |none=>rw[i]at e;simp at e;simp[e]
 |some p=>
  obtain⟨j,f⟩:=p;rw[i]at e;rcases e with ⟨d,c,g,h2,h3⟩|⟨d,g,h2,h3⟩
  .simp only[yielded,g,Option.bind_some,h.here d _ h2];rw[h3];cases c<;>cases f<;>rfl
  simp only[yielded,g,Option.bind_some,h.here d _ h2];rw[h3];rfl
def θ(d:ŀ Nat)(v:Value)(fr:Fr):Fr:=match d with|some t=>(t,v)::fr|none=>fr
def Ω(N:Nat)(d:ŀ Nat):Prop:=match d with|some t=>Nat.blt t N=true|none=>True
theorem Rel.θ{a:Act}{d:ŀ Nat}(v:Value)(h:Rel N fr a)(c:Ω N d):Rel N (EL.θ d v fr) (a.put d v):=by
 cases d with
 |none=>exact h
 |some t=>exact h.put v (by simpa[Ω,aaI]using c)
theorem WL.rf{dst:ŀ Nat}{op:Op}{ty:TypeId}{pos:String}{af:Array Edge}{g:ŀ (Nat×Bool)}{v:Value}
  (f:ξ ops fr ⟨dst,op,ty,pos,af,g⟩ true) (h:Y0 P N ⟨dst,op,ty,pos,af,g⟩ fr S v) (e:Ω N dst) (k:WL P N ops Q l (θ dst v fr) S):WL P N ops Q (⟨dst,op,ty,pos,af,g⟩::l) fr S:=by
 intro a w c d
 unfold wpList
 rw[ą (c.wanted f)]
 refine .inl ?_
 simp only[Oper.wp,h a w c d,Oper.upon]
 exact k _ w (c.θ v e) d
theorem WL.H4{op:Op}{ty:TypeId}{pos:String}{af:Array Edge}{g:ŀ (Nat×Bool)}{S':Ξ}
  (d:ξ ops fr ⟨none,op,ty,pos,af,g⟩ true) (h:YS P N ⟨none,op,ty,pos,af,g⟩ fr S S') (k:WL P N ops Q l fr S'):WL P N ops Q (⟨none,op,ty,pos,af,g⟩::l) fr S:=by
 intro a w c e
 obtain⟨w',hr,hp⟩:=h a w c e
 unfold wpList
 rw[ą (c.wanted d)]
 refine .inl ?_
 simp only[Oper.wp,hr,Oper.upon]
 exact k _ w' c hp
theorem WL.skip{dst:ŀ Nat}{op:Op}{ty:TypeId}{pos:String}{af:Array Edge}{g:ŀ (Nat×Bool)}
  (e:ξ ops fr ⟨dst,op,ty,pos,af,g⟩ false) (d:Ω N dst) (k:WL P N ops Q l (θ dst undef fr) S):WL P N ops Q (⟨dst,op,ty,pos,af,g⟩::l) fr S:=by
 intro a w c f
 unfold wpList
 rw[ā (by rw[c.wanted e];simp)]
 exact k _ w (c.θ undef d) f
theorem Zh{dst:ŀ Nat}{op:Op}{ty:TypeId}{pos:String}{af:Array Edge}:ξ ops fr ⟨dst,op,ty,pos,af,none⟩ true:=rfl
theorem rV{dst:ŀ Nat}{op:Op}{ty:TypeId}{pos:String}{af:Array Edge}{j:Nat}{c:Bool}{d:Nat}(a:(ops[j]?).bind (·.dst)=some d)(h2:fr.get d=some (.bool c)):
  ξ ops fr ⟨dst,op,ty,pos,af,some (j,c)⟩ true:=.inl ⟨d,c,a,h2,by cases c<;>rfl⟩
theorem Zyq{dst:ŀ Nat}{op:Op}{ty:TypeId}{pos:String}{af:Array Edge}{j:Nat}{c:Bool}{d:Nat}(a:(ops[j]?).bind (·.dst)=some d)(h2:fr.get d=some (.bool (!c))):
  ξ ops fr ⟨dst,op,ty,pos,af,some (j,c)⟩ false:=.inl ⟨d,!c,a,h2,by cases c<;>rfl⟩
theorem K6{dst:ŀ Nat}{op:Op}{ty:TypeId}{pos:String}{af:Array Edge}{j:Nat}{d:Nat}(a:(ops[j]?).bind (·.dst)=some d)(h2:fr.get d=some (.bool false)):
  ξ ops fr ⟨dst,op,ty,pos,af,some (j,true)⟩ false:=.inl ⟨d,false,a,h2,rfl⟩
theorem Bc{dst:ŀ Nat}{op:Op}{ty:TypeId}{pos:String}{af:Array Edge}{j:Nat}{d:Nat}(a:(ops[j]?).bind (·.dst)=some d)(h2:fr.get d=some (.bool true)):
  ξ ops fr ⟨dst,op,ty,pos,af,some (j,false)⟩ false:=.inl ⟨d,true,a,h2,rfl⟩
theorem Q7{dst:ŀ Nat}{op:Op}{ty:TypeId}{pos:String}{af:Array Edge}{j:Nat}{c:Bool}{d:Nat}(a:(ops[j]?).bind (·.dst)=some d)(h2:fr.get d=some undef):
  ξ ops fr ⟨dst,op,ty,pos,af,some (j,c)⟩ false:=.inr ⟨d,a,h2,rfl⟩
end
def iR(md:Region.Mode)(a:Ŀ (Ŀ Nat))(o:Oper):Ŀ Nat:=
 (List.range a.length).filter λj=>o.after.toList.any λe=>Region.binds md e&&(Nat.beq e.on j || (a.getD e.on []).contains j)
def iS(md:Region.Mode):Ŀ Oper->Ŀ (Ŀ Nat)->Ŀ (Ŀ Nat)
 |[],a=>a
 |o::r,a=>iS md r (a++[iR md a o])
theorem Lh(md:Region.Mode):∀(l:Ŀ Oper) (a:Ŀ (Ŀ Nat)) (k:Nat),k<a.length->(iS md l a)[k]?=a[k]?
 |[],a,k,_=>rfl
 |o::r,a,k,h=>by simp only[iS];rw[Lh md r _ k ab0,Ė h]
theorem Vd(md:Region.Mode):∀(l:Ŀ Oper) (a:Ŀ (Ŀ Nat)) (i:Nat) (o:Oper),l[i]?=some o->
  (iS md l a)[a.length+i]?=some (iR md ((iS md l a).take (a.length+i)) o)
 |[],a,i,o,h=>by simp at h
 |p::r,a,0,o,h=>by
  simp at h;subst h;simp only[iS,dV];have d:=Lh md r (a++[iR md a p]) a.length ß;rw[d];have f:(iS md r (a++[iR md a p])).take a.length=a:=by
   apply Ÿ;intro j;rw[Ŏ];split
   .rename_i c;rw[Lh md r _ j ab0,Ė c]
   rename_i c;simp at c;rw[ń c]
  rw[f];simp
 |p::r,a,i+1,o,h=>by simp at h;have:=Vd md r (a++[iR md a p]) i o h;simp only[iS];have e:(a++[iR md a p]).length+i=a.length+(i+1):=ab0;rw[e]at this;exact this
def gO(md:Region.Mode)(ops:Array Oper)(D:Nat->Prop):Prop:=∀i o,ops[i]?=some o->D i->∀e∈o.after,Region.binds md e=true->D e.on
theorem yT{md:Region.Mode}{l:Ŀ Oper}{D:Nat->Prop}(p:gO md l.toArray D):
  ∀k o,l[k]?=some o->(∀e∈o.after,Region.binds md e=true->D e.on)->∀j,j∈(iS md l []).getD k []->D j:=by
 intro k
 induction k using Nat.strongRecOn with
 |_ k t=>
  intro o m hr j f
  have h:=Vd md l [] k o m
  simp only[ĺ,ņ]at h
  rw[Ģ,h]at f
  simp only[Ś,iR,Ő,Ľ,dI,ĉ,Ķ]at f
  obtain⟨r,e,q,n,a⟩:=f
  have i:=hr e (by simpa using q) n
  rcases a with a|a
  .have:=ĸ a
   subst this
   exact i
  have d:e.on<k:=by
   rcases ş e.on k with h|h
   .exact h
   rw[Ģ,ń ab0]at a;simp at a
  have c:((iS md l []).take k).getD e.on []=(iS md l []).getD e.on []:=by rw[Ģ,Ģ,Ŏ,ą d]
  rw[c]at a
  have s:k<l.length:=(ċ.1 m).1
  have g:l[e.on]?=some (l[e.on]'ŉ):=Ą ŉ
  exact t e.on d _ g (λe' my oZ=>p e.on _ ß i e' my oZ) j (by simpa using a)
def iM(md:Region.Mode)(l:Ŀ Oper)(fl:Ŀ Bool):Bool:=
 let A:=iS md l []
 (List.range l.length).all λk=>Nat.blt k fl.length || (List.range k).all λj=>fl.getD j false || (A.getD k []).contains j
section
variable {P:Program}{Q:ï}{md:Region.Mode}{l:Ŀ Oper}{fl:Ŀ Bool}
theorem Ue{D:Nat->Prop}(c:iM md l fl=true)(f:gO md l.toArray D){k:Nat}{o:Oper}(m:fl.length<=k)(d:l[k]?=some o)
  (hr:∀e∈o.after,Region.binds md e=true->D e.on):∀j,j<k->fl.getD j false=false->D j:=by
 intro j i g
 have a:k<l.length:=(ċ.1 d).1
 simp only[iM,Ć,Ľ,Ķ,aaI]at c
 rcases c k a with h|h
 .omega
 rcases h j i with h'|h'
 .rw[g]at h';cases h'
 exact yT f k o d hr j (by simpa using h')
def lQ(md:Region.Mode)(l:Ŀ Oper):Bool:=(List.range l.length).all λi=>((l[i]?).map λo=>o.after.toList.all λe=>!Region.binds md e || Nat.blt e.on i).getD true
theorem Zyj(c:lQ md l=true){i:Nat}{o:Oper}(f:l[i]?=some o):∀e∈o.after,Region.binds md e=true->e.on<i:=by
 intro e g d;have a:i<l.length:=(ċ.1 f).1;simp only[lQ,Ć,Ľ]at c;have:=c i a;rw[f]at this;simp only[Ğ,Ś,Ć,Ķ,Ř,aaI]at this;rcases this e (by simpa using g)with h|h
 .rw[h]at d;cases d
 exact h
def km(L:Nat)(a:Array Bool):Nat:=((List.range L).filter λi=>!a.getD i false).length
theorem PD:∀(l₁ l₂:Ŀ Nat),l₁.Nodup->(∀x,x∈l₁->x∈l₂)->l₁.length<=l₂.length
 |[],_,_,_=>by simp
 |x::r,l₂,f,a=>by have c:x∈l₂:=a x ß;have nR:=aaS.1 f;have h:=PD r (l₂.erase x) nR.2 (λy d=>(List.mem_erase_of_ne (λ(e:y=x)=>nR.1 (by rw[<-e];exact d))).2 (a y (by simp[d])));have g:=List.length_erase_of_mem c;have hp:=List.length_pos_of_mem c;simp only[Ę];omega
theorem Zwb{L i:Nat}{a:Array Bool}(g:a.size=L)(hi:i<L)(k:a.getD i false=false):km L (a.setIfInBounds i true)+1<=km L a:=by
 unfold km;have d:∀j,j∈(i::(List.range L).filter λj=>!(a.setIfInBounds i true).getD j false)->j∈(List.range L).filter λj=>!a.getD j false:=by
  intro j f;simp only[Ď,Ő,Ľ,Ř]at f⊢;rcases f with rfl|⟨h,h2⟩
  .exact⟨hi,k⟩
  refine⟨h,?_⟩;by_cases e:i=j
  .subst e;simp[g,hi]at h2
  rw[getD_set_ne false e]at h2;exact h2
 have c:(i::(List.range L).filter λj=>!(a.setIfInBounds i true).getD j false).Nodup:=by refine aaS.2 ⟨?_,List.nodup_range.filter _⟩;simp[g,hi]
 have:=PD _ _ c d;simpa using this
theorem ZxQ(Inv:(Nat->Prop)->Act->World->Prop)(f:(Nat->Prop)->Nat->Act->World->Prop)(hE:lQ md l=true)(hT:iM md l fl=true)
  (step:∀(D:Nat->Prop) a w i o,gO md l.toArray D->(∀k,fl.length<=k->¬D k)->i<fl.length->l[i]?=some o->¬D i->(∀e∈o.after,Region.binds md e=true->D e.on)->Inv D a w->
   wpOp P l.toArray Q i (λa' w'=>Inv (λj=>D j\/j=i) a' w') a w)
  (kn:∀(D:Nat->Prop) a w,gO md l.toArray D->(∀i,i<fl.length->i<l.length->fl.getD i false=false->D i)->(∀k,fl.length<=k->¬D k)->Inv D a w->f D fl.length a w)
  (tail:∀(D:Nat->Prop) a w m o,gO md l.toArray D->fl.length<=m->l[m]?=some o->(∀k,m<=k->¬D k)->(∀e∈o.after,Region.binds md e=true->D e.on)->f D m a w->
   wpOp P l.toArray Q m (λa' w'=>f (λj=>D j\/j=m) (m+1) a' w') a w)
  (float:∀(D:Nat->Prop) a w m i o,gO md l.toArray D->i<fl.length->fl.length<=m->fl.getD i false=true->l[i]?=some o->¬D i->(∀e∈o.after,Region.binds md e=true->D e.on)->f D m a w->
   wpOp P l.toArray Q i (λa' w'=>f (λj=>D j\/j=i) m a' w') a w)
  (aa:∀(D:Nat->Prop) a w m,(∀i,i<l.length->D i)->l.length<=m->f D m a w->Q .normal a w) :
  ∀(fuel:Nat) (c:Array Bool) (D:Nat->Prop) (a:Act) (w:World),c.size=l.length->(∀i,D i↔c.getD i false=true)->gO md l.toArray D->
   km l.length c<=fuel->
   ((∃i,i<fl.length/\i<l.length/\fl.getD i false=false/\¬D i)/\(∀k,fl.length<=k->¬D k)/\Inv D a w\/
    ∃m,fl.length<=m/\(∀i,i<fl.length->i<l.length->fl.getD i false=false->D i)/\(∀i,fl.length<=i->i<m->i<l.length->D i)/\(∀k,m<=k->¬D k)/\f D m a w)->
   wpAny P md l.toArray Q fuel c a w:=by
 have g:∀(c:Array Bool) (D:Nat->Prop) (j:Nat),c.size=l.length->(∀i,D i↔c.getD i false=true)->j∈Region.ready md l.toArray c->
   ¬D j/\∃o,l[j]?=some o/\∀e∈o.after,Region.binds md e=true->D e.on:=by
  intro c D j y t T
  obtain⟨O,o,s,E⟩:=abq.1 T
  have ag:j<l.length:=by have:=(ĕ.1 s).1;simpa using this
  refine⟨λh=>?_,o,by simpa using s,λe S F=>(t _).2 (E e S F)⟩
  rw[t]at h
  simp[y,ag]at h O
  rw[h]at O
  cases O
 have C:∀(c:Array Bool) (D:Nat->Prop) (j:Nat),c.size=l.length->(∀i,D i↔c.getD i false=true)->j<l.length->¬D j->(∀i,i<j->D i)->j∈Region.ready md l.toArray c:=by intro c D j y t T X d;have s:l[j]?=some l[j]:=Ą T;refine abq.2 ⟨?_,l[j],ß,λe S F=>(t _).1 (d _ (Zyj hE s e S F))⟩;rw[t]at X;simp[y,T]at X⊢;exact X
 have I:∀(c:Array Bool) (D:Nat->Prop),c.size=l.length->(∀i,D i↔c.getD i false=true)->Region.ready md l.toArray c=[]->∀i,i<l.length->D i:=by
  intro c D y t hr i hi;apply Š;intro v;obtain⟨j,⟨ad,ae⟩,W⟩:=least (p:=λj=>j<l.length/\¬D j) ⟨i,hi,v⟩;have:j∈Region.ready md l.toArray c:=C c D j y t ad ae (λk G=>by
   apply Š;intro ah;have:=W k ⟨ŉ,ah⟩;omega)
  rw[hr]at this;cases this
 have A:∀(D:Nat->Prop) a w,(∀i,i<l.length->D i)->((∃i,i<fl.length/\i<l.length/\fl.getD i false=false/\¬D i)/\(∀k,fl.length<=k->¬D k)/\Inv D a w\/
    ∃m,fl.length<=m/\(∀i,i<fl.length->i<l.length->fl.getD i false=false->D i)/\(∀i,fl.length<=i->i<m->i<l.length->D i)/\(∀k,m<=k->¬D k)/\f D m a w)->Q .normal a w:=by
  intro D a w d h
  rcases h with ⟨⟨i,_,h2,_,h3⟩,_⟩|⟨m,_,_,_,h3,Z⟩
  .exact absurd (d i h2) h3
  have:l.length<=m:=by
   rcases ş m l.length with h|h
   .exact absurd (d m h) (h3 m (Ċ _))
   exact h
  exact aa D a w m d this Z
 intro fuel
 induction fuel with
 |zero=>
  intro c D a w y t L hf h
  have d:∀i,i<l.length->D i:=by intro i hi;rw[t];have O:(List.range l.length).filter (λi=>!c.getD i false)=[]:=List.eq_nil_of_length_eq_zero (by unfold km at hf;omega);rw[List.filter_eq_nil_iff]at O;have:=O i (by simpa using hi);simpa using this
  refine⟨?_,A D a w d h⟩
  apply eG.2
  intro j T
  obtain⟨J,o,s,_⟩:=g c D j y t T
  exact J (d j (ċ.1 s).1)
 |succ fuel ih=>
  intro c D a w y t L hf h
  have next:∀i,i<l.length->¬D i->(∀o,l[i]?=some o->∀e∈o.after,Region.binds md e=true->D e.on)->(∀j,(D j\/j=i)↔(c.setIfInBounds i true).getD j false=true)/\
    gO md l.toArray (λj=>D j\/j=i)/\km l.length (c.setIfInBounds i true)<=fuel:=by
   intro i hi X E
   refine⟨λj=>?_,?_,?_⟩
   .by_cases e:i=j
    .subst e;simp[y,hi]
    rw[getD_set_ne false e,<-t]
    exact⟨λh=>h.resolve_right (λh=>e h.symm),.inl⟩
   .intro k o s G e S F
    rcases G with G|rfl
    .exact .inl (L k o s G e S F)
    exact .inl (E o (by simpa using s) e S F)
   have hu:c.getD i false=false:=by
    cases F:c.getD i false
    .rfl
    exact absurd ((t i).2 F) X
   have:=Zwb y hi hu
   omega
  refine⟨λhr=>A D a w (I c D y t hr) h,λi hi=>?_⟩
  obtain⟨v,o,s,E⟩:=g c D i y t hi
  have N:i<l.length:=(ċ.1 s).1
  obtain⟨He,nP,Hf⟩:=next i N v (λo' lD=>by rw[s]at lD;cases lD;exact E)
  rcases h with ⟨⟨q,J,h2,x,h3⟩,B,U⟩|⟨m,J,h2,K,h3,Z⟩
  .have u:i<fl.length:=by
    rcases ş i fl.length with h|h
    .exact h
    exact absurd (Ue hT L h s E q ŉ x) h3
   refine wpOp_mono (λa' w' R=>?_) (step D a w i o L B u s v E U)
   have r:∀k,fl.length<=k->¬(D k\/k=i):=by
    intro k G;rintro (h|rfl)
    .exact B k G h
    omega
   refine ih _ _ a' w' (by simpa using y) He nP Hf ?_
   by_cases V:∃q,q<fl.length/\q<l.length/\fl.getD q false=false/\¬(D q\/q=i)
   .exact .inl ⟨V,r,R⟩
   have d:∀q,q<fl.length->q<l.length->fl.getD q false=false->(D q\/q=i):=λq H n x=>by apply Š;intro hh;exact V ⟨q,H,n,x,hh⟩
   exact .inr ⟨fl.length,Ċ _,d,λk _ _ _=>by omega,r,kn _ a' w' nP d r R⟩
  rcases ş i fl.length with u|u
  .have ab:fl.getD i false=true:=by
    cases F:fl.getD i false
    .exact absurd (h2 i u N F) v
    rfl
   refine wpOp_mono (λa' w' R=>?_) (float D a w m i o L u J ab s v E Z)
   refine ih _ _ a' w' (by simpa using y) He nP Hf (.inr ⟨m,J,λq H n x=>.inl (h2 q H n x),λq H Y n=>.inl (K q H Y n),λk G=>?_,R⟩)
   rintro (h|rfl)
   .exact h3 k G h
   omega
  have ac:i=m:=by
   rcases aay i m with h|h|h
   .exact absurd (K i u h N) v
   .exact h
   exact absurd (Ue hT L u s E m h (by rw[Ģ,ń J];rfl)) (h3 m (Ċ _))
  subst ac
  refine wpOp_mono (λa' w' R=>?_) (tail D a w i o L J s h3 E Z)
  refine ih _ _ a' w' (by simpa using y) He nP Hf (.inr ⟨i+1,ŉ,λq H n x=>.inl (h2 q H n x),λq H Y n=>?_,λk G=>?_,R⟩)
  .rcases ş q i with h|h
   .exact .inl (K q H h n)
   exact .inr ŉ
  rintro (h|rfl)
  .exact h3 k ŉ h
  omega
theorem Zt8{a:Act}{w:World}(Inv:(Nat->Prop)->Act->World->Prop)(c:(Nat->Prop)->Nat->Act->World->Prop)(q:lQ .any l=true)(r:iM .any l fl=true)
  (p:Inv (λ_=>False) a { w with drawn:=w.drawn+1 })
  (step:∀(D:Nat->Prop) a w i o,gO .any l.toArray D->(∀k,fl.length<=k->¬D k)->i<fl.length->l[i]?=some o->¬D i->(∀e∈o.after,Region.binds .any e=true->D e.on)->Inv D a w->
   wpOp P l.toArray Q i (λa' w'=>Inv (λj=>D j\/j=i) a' w') a w)
  (kn:∀(D:Nat->Prop) a w,gO .any l.toArray D->(∀i,i<fl.length->i<l.length->fl.getD i false=false->D i)->(∀k,fl.length<=k->¬D k)->Inv D a w->c D fl.length a w)
  (tail:∀(D:Nat->Prop) a w m o,gO .any l.toArray D->fl.length<=m->l[m]?=some o->(∀k,m<=k->¬D k)->(∀e∈o.after,Region.binds .any e=true->D e.on)->c D m a w->
   wpOp P l.toArray Q m (λa' w'=>c (λj=>D j\/j=m) (m+1) a' w') a w)
  (float:∀(D:Nat->Prop) a w m i o,gO .any l.toArray D->i<fl.length->fl.length<=m->fl.getD i false=true->l[i]?=some o->¬D i->(∀e∈o.after,Region.binds .any e=true->D e.on)->c D m a w->
   wpOp P l.toArray Q i (λa' w'=>c (λj=>D j\/j=i) m a' w') a w)
  (n:∀(D:Nat->Prop) a w m,(∀i,i<l.length->D i)->l.length<=m->c D m a w->Q .normal a w) :
  wpAny P .any l.toArray Q l.toArray.size (Array.replicate l.toArray.size false) a { w with drawn:=w.drawn+1 }:=by
 refine(ZxQ Inv c q r step kn tail float n _ _ (λ_=>False) a _ ß (λi=>?_) (λ_ _ _ h=>h.elim) ?_ ?_)
 .constructor
  .exact False.elim
  intro h
  simp only[ž,abm]at h
  split at h<;>simp at h
 .unfold km
  have:=dO (λi=>!(Array.replicate l.toArray.size false).getD i false) (List.range l.length)
  simpa using this
 by_cases f:∃i,i<fl.length/\i<l.length/\fl.getD i false=false
 .obtain⟨i,g,h2,h3⟩:=f
  exact .inl ⟨⟨i,g,h2,h3,λh=>h⟩,λ_ _ h=>h,p⟩
 have d:∀i,i<fl.length->i<l.length->fl.getD i false=false->False:=λi g h2 h3=>f ⟨i,g,h2,h3⟩
 exact .inr ⟨fl.length,Ċ _,d,λi g h2 _=>by omega,λ_ _ h=>h,kn _ a _ (λ_ _ _ h=>h.elim) d (λ_ _ h=>h) p⟩
end
open Go.RowKit
abbrev Mem:=Nat->Nat->ŀ Value
def Mem.le(G G':Mem):Prop:=∀b o v,G b o=some v->G' b o=some v
theorem Mem.le_refl(G:Mem):Mem.le G G:=λ_ _ _ h=>h
theorem Mem.le_trans{A B C:Mem}(h:Mem.le A B)(k:Mem.le B C):Mem.le A C:=λb o v e=>k b o v (h b o v e)
def rM(G:Mem)(w:World):Prop:=∀b o v,G b o=some v->w.cell? ⟨b,o,none⟩=some v
theorem rM.lt{G:Mem}{w:World}(h:rM G w){b o:Nat}{v:Value}(e:G b o=some v):b<w.heap.size:=aas w _ (h b o v e)
structure Ow where
 b:Nat
 o:Obj
 m:Nat
abbrev Lo:=Ŀ (Nat×ŀ Ow)
def Lo.get:Lo->Nat->ŀ Ow
 |[],_=>none
 |p::r,i=>bif Nat.beq p.1 i then p.2 else Lo.get r i
def Lo.sub(L' L:Lo):Prop:=∀i x,L'.get i=some x->L.get i=some x
theorem Lo.Zq(L:Lo):Lo.sub [] L:=λt v h=>by simp[Lo.get]at h
theorem Lo.vB(L:Lo):Lo.sub L L:=λ_ _ h=>h
theorem Lo.Zp{L:Lo}{i j:Nat}{x:ŀ Ow}:Lo.get ((i,x)::L) j=if i=j then x else L.get j:=by
 simp only[Lo.get];by_cases e:i=j
 .subst e;simp
 have:Nat.beq i j=false:=by cases a:Nat.beq i j;rfl;exact absurd (ĸ a) e
 simp[this,e]
theorem Lo.Zi{L' L:Lo}{i:Nat}{x:ŀ Ow}(h:L.get i=x)(c:Lo.sub L' L):Lo.sub ((i,x)::L') L:=by
 intro u y a;rw[Lo.Zp]at a;split at a
 .rename_i e;subst e;rw[h];exact a
 exact c u y a
theorem Lo.GJ{L' L:Lo}{i:Nat}(c:Lo.sub L' L):Lo.sub ((i,none)::L') L:=by
 intro u y a;rw[Lo.Zp]at a;split at a
 .cases a
 exact c u y a
def Lo.own(L:Lo)(b o:Nat):Prop:=∃i y,L.get i=some y/\y.b=b/\y.m<=o
theorem Lo.ZAe{b o:Nat}(h:Lo.own [] b o):False:=by obtain⟨i,y,a,_⟩:=h;simp[Lo.get]at a
structure Bs where
 w:World
 L:Lo
structure St (w0:Bs) (G0 G:Mem) (L:Lo) (w:World):Prop where
 os:w.os=w0.w.os
 tape:w.tape=w0.w.tape
 output:w.output=w0.w.output
 drawn:w0.w.drawn<=w.drawn
 size:w0.w.heap.size<=w.heap.size
 block:∀k,k<w0.w.heap.size->(∀i y,w0.L.get i=some y->y.b≠k)->w.heap[k]?=w0.w.heap[k]?
 base:Mem.le G0 G
 jj:rM G w
 fresh:∀b o v,G b o=some v->G0 b o=some v\/w0.w.heap.size<=b\/w0.L.own b o
 loc:∀i x,L.get i=some x->w.heap[x.b]?=some x.o/\((∃y,w0.L.get i=some y/\y.b=x.b)\/w0.w.heap.size<=x.b)/\∀k,x.m<=k->G x.b k=none
 Ú:∀i j x y,i≠j->L.get i=some x->L.get j=some y->x.b≠y.b
theorem St.weaken{w0:Bs}{G0 G:Mem}{L L':Lo}{w:World}(h:St w0 G0 G L w)(c:Lo.sub L' L):St w0 G0 G L' w:=
 { h with loc:=λi x e=>h.loc i x (c _ _ e),Ú:=λi j x y a e e'=>h.Ú i j x y a (c _ _ e) (c _ _ e') }
theorem St.eI{w0:Bs}{G0 G G':Mem}{L:Lo}{w:World}(h:St w0 G0 G' L w)(c:Mem.le G0 G)(a:Mem.le G G'):St w0 G0 G L w:=
 { h with
  base:=c
  jj:=λb o v e=>h.jj b o v (a b o v e)
  fresh:=λb o v e=>h.fresh b o v (a b o v e)
  loc:=λi x e=>⟨(h.loc i x e).1,(h.loc i x e).2.1,λk f=>by
   have:=(h.loc i x e).2.2 k f;cases d:G x.b k with
   |none=>rfl
   |some v=>rw[a x.b k v d]at this;cases this⟩ }
theorem St.drew{w0:Bs}{G0 G:Mem}{L:Lo}{w:World}(h:St w0 G0 G L w):St w0 G0 G L { w with drawn:=w.drawn+1 }:=
 ⟨h.os,h.tape,h.output,aaz h.drawn,h.size,h.block,h.base,h.jj,h.fresh,h.loc,h.Ú⟩
structure Hp (G:Mem) (L:Lo) (w:World):Prop where
 jj:rM G w
 loc:∀i x,L.get i=some x->w.heap[x.b]?=some x.o/\∀k,x.m<=k->G x.b k=none
 Ú:∀i j x y,i≠j->L.get i=some x->L.get j=some y->x.b≠y.b
structure Ext (w:World) (G:Mem) (L:Lo) (w':World) (G':Mem) (L':Lo):Prop where
 os:w'.os=w.os
 tape:w'.tape=w.tape
 output:w'.output=w.output
 drawn:w.drawn<=w'.drawn
 size:w.heap.size<=w'.heap.size
 block:∀k,k<w.heap.size->(∀i y,L.get i=some y->y.b≠k)->w'.heap[k]?=w.heap[k]?
 le:Mem.le G G'
 jj:rM G' w'
 fresh:∀b o v,G' b o=some v->G b o=some v\/w.heap.size<=b\/L.own b o
 loc:∀i x,L'.get i=some x->w'.heap[x.b]?=some x.o/\((∃y,L.get i=some y/\y.b=x.b)\/w.heap.size<=x.b)/\∀k,x.m<=k->G' x.b k=none
 Ú:∀i j x y,i≠j->L'.get i=some x->L'.get j=some y->x.b≠y.b
theorem St.ext{w0:Bs}{G0 G G':Mem}{L p t R E:Lo}{w w':World}(h:St w0 G0 G L w)(e:Ext w G p w' G' t)(n:Lo.sub p L)(m:Lo.sub R L)(B:∀i x,R.get i=some x->p.get i=none)
  (J:∀i x y,p.get i=some x->L.get i=some y->∀z,w0.L.get i=some z->z.m<=x.m)
  (h3:∀i x,E.get i=some x->t.get i=some x\/R.get i=some x):St w0 G0 G' E w':=by
 have lt:∀i x,L.get i=some x->x.b<w.heap.size:=λi x hi=>(ĕ.1 (h.loc i x hi).1).1
 have rest:∀i x,R.get i=some x->w'.heap[x.b]?=some x.o/\((∃y,w0.L.get i=some y/\y.b=x.b)\/w0.w.heap.size<=x.b)/\∀k,x.m<=k->G' x.b k=none:=by
  intro i x hi;obtain⟨s,l,D⟩:=h.loc i x (m _ _ hi);have H:=lt i x (m _ _ hi);have c:∀j y,p.get j=some y->y.b≠x.b:=λj y d=>by
   have u:j≠i:=λe'=>by subst e';rw[B j _ hi]at d;cases d
   exact h.Ú j i y x u (n _ _ d) (m _ _ hi)
  refine⟨?_,l,λk A=>?_⟩
  .rw[e.block x.b H c];exact s
  cases I:G' x.b k with
  |none=>rfl
  |some v=>
   rcases e.fresh x.b k v I with h'|h'|⟨j,y,d,r,_⟩
   .rw[D k A]at h';cases h'
   .omega
   exact absurd r (c j y d)
 have both:∀i x,t.get i=some x\/R.get i=some x->w'.heap[x.b]?=some x.o/\((∃y,w0.L.get i=some y/\y.b=x.b)\/w0.w.heap.size<=x.b)/\∀k,x.m<=k->G' x.b k=none:=by
  intro i x q;rcases q with q|q
  .obtain⟨s,l,D⟩:=e.loc i x q;refine⟨s,?_,D⟩;rcases l with ⟨y,r,g⟩|l
   .rcases (h.loc i y (n _ _ r)).2.1 with ⟨z,f,a⟩|f
    .exact .inl ⟨z,f,a.trans g⟩
    exact .inr (by rw[<-g];exact f)
   exact .inr (ŋ h.size l)
  exact rest i x q
 refine⟨e.os.trans h.os,e.tape.trans h.tape,e.output.trans h.output,ŋ h.drawn e.drawn,ŋ h.size e.size,λk A F=>?_,Mem.le_trans h.base e.le,e.jj,λb o v K=>?_,λi x hi=>both i x (h3 i x hi),λi j x y c hi d=>?_⟩
 .have N:=h.size
  rw[e.block k ŉ (λi y hi r=>?_)]
  .exact h.block k A F
  obtain⟨s,l,_⟩:=h.loc i y (n _ _ hi)
  rcases l with ⟨z,l,a⟩|l
  .exact F i z l (a.trans r)
  omega
 .rcases e.fresh b o v K with h'|h'|⟨i,y,hi,g,C⟩
  .exact h.fresh b o v h'
  .exact .inr (.inl (ŋ h.size h'))
  rcases (h.loc i y (n _ _ hi)).2.1 with ⟨z,f,a⟩|f
  .exact .inr (.inr ⟨i,z,f,a.trans g,ŋ (J i y y hi (n _ _ hi) z f) C⟩)
  exact .inr (.inl (by rw[<-g];exact f))
 rcases h3 i x hi with hi|hi<;>rcases h3 j y d with d|d
 .exact e.Ú i j x y c hi d
 .rcases (e.loc i x hi).2.1 with ⟨z,f,a⟩|f
  .rw[<-a];exact h.Ú i j z y c (n _ _ f) (m _ _ d)
  have:=lt j y (m _ _ d);omega
 .rcases (e.loc j y d).2.1 with ⟨z,f,a⟩|f
  .rw[<-a];exact h.Ú i j x z c (m _ _ hi) (n _ _ f)
  have:=lt i x (m _ _ hi);omega
 exact h.Ú i j x y c (m _ _ hi) (m _ _ d)
def jS(w0:Bs)(G:Mem)(post:Mem->Lo->Value->Prop)(e:Ending)(w':World):Prop:=∃r G' L',e=.returned r/\Ext w0.w G w0.L w' G' L'/\post G' L' r
abbrev vf(w0:Bs)(G:Mem)(post:Mem->Value->Prop):=jS w0 G (λG' _ r=>post G' r)
def eR(P:Program)(f:FuncId)(args:Array Value)(L:Lo)(pre:Mem->Prop)(post:Mem->Lo->Value->Prop):Prop:=
 ∀w G,Hp G L w->pre G->Calls P f args w (jS ⟨w,L⟩ G post)
abbrev iC(P:Program)(f:FuncId)(args:Array Value)(pre:Mem->Prop)(post:Mem->Value->Prop):Prop:=eR P f args [] pre (λG _ r=>post G r)
theorem eR.mono{P:Program}{f:FuncId}{args:Array Value}{L:Lo}{pre a:Mem->Prop}{post post':Mem->Lo->Value->Prop}(h:eR P f args L pre post)(hp:∀G,a G->pre G)
  (e:∀G L r,post G L r->post' G L r):eR P f args L a post':=λw G hi d=>(h w G hi (hp G d)).mono λ_ _ ⟨r,G',L',c,h2,h3⟩=>⟨r,G',L',c,h2,e _ _ _ h3⟩
def kZ(P:Program):Result Next->(Value->World->Prop)->Prop
 |.ok (.value v) w',Φ=>Φ v w'
 |.ok .skip w',Φ=>Φ undef w'
 |.ok (.enter f args) w',Φ=>Calls P f args w' (λe a=>∃r,e=.returned r/\Φ r a)
 |_,_=>False
theorem kZ.mono{P:Program}{r:Result Next}{Φ a:Value->World->Prop}(h:kZ P r Φ)(c:∀v w,Φ v w->a v w):kZ P r a:=by
 cases r with
 |ok n w=>
  cases n<;>simp only[kZ]at h⊢
  case value v=>exact c _ _ h
  case skip=>exact c _ _ h
  case enter f args=>exact h.mono λe g ⟨r,d,h2⟩=>⟨r,d,c _ _ h2⟩
 |halt x w=>exact h
theorem kZ.wp{P:Program}{o:Oper}{a:Act}{w:World}{Φ:Value->World->Prop}{K:Act->World->Prop}{Q:ï}(h:kZ P ((execOp a.eval o).run P w) Φ)(c:∀v w',Φ v w'->K (a.put o.dst v) w'):o.wp P a w K Q:=by
 unfold Oper.wp;generalize (execOp a.eval o).run P w=r at h⊢;cases r with
 |ok n w'=>
  cases n<;>simp only[kZ]at h<;>simp only[Oper.upon]
  case value v=>exact c _ _ h
  case skip=>exact c _ _ h
  case enter f args=>exact h.mono λe g ⟨r,d,h2⟩=>by subst d;exact c _ _ h2
 |halt x w=>exact h.elim
def YR(P:Program)(N:Nat)(o:Oper)(fr:Fr)(S:Ξ)(Φ:Value->World->Prop):Prop:=∀a w,Rel N fr a->S w->kZ P ((execOp a.eval o).run P w) Φ
section
variable {P:Program}{N:Nat}{Q:ï}{fr:Fr}{S:Ξ}{ops:Array Oper}{l:Ŀ Oper}
theorem WL.yr{dst:ŀ Nat}{op:Op}{ty:TypeId}{pos:String}{af:Array Edge}{g:ŀ (Nat×Bool)}{Φ:Value->Ξ}
  (e:ξ ops fr ⟨dst,op,ty,pos,af,g⟩ true) (h:YR P N ⟨dst,op,ty,pos,af,g⟩ fr S Φ) (d:Ω N dst) (k:∀v,WL P N ops Q l (θ dst v fr) (Φ v)):WL P N ops Q (⟨dst,op,ty,pos,af,g⟩::l) fr S:=by
 intro a w c f
 unfold wpList
 rw[ą (c.wanted e)]
 exact .inl ((h a w c f).wp λv w' i=>k v _ w' (c.θ v d) i)
end
def NX(Q:ï):ï:=λe a w=>match e with|.normal=>Q .normal a w|_=>False
theorem WE.nx{N:Nat}{Q:ï}{fr:Fr}{S:Ξ}(h:WE N Q .normal fr S):WE N (NX Q) .normal fr S:=h
abbrev Xm:=Nat->ŀ (Nat×Obj)
structure Gx where
 m:Mem
 x:Xm
def Gx.of(G:Mem):Gx:=⟨G,λ_=>none⟩
def Gx.le(g g':Gx):Prop:=Mem.le g.m g'.m/\∀b y,g.x b=some y->g'.x b=some y
theorem Gx.le_refl(g:Gx):Gx.le g g:=⟨Mem.le_refl _,λ_ _ h=>h⟩
theorem Gx.le_trans{a b c:Gx}(h:Gx.le a b)(k:Gx.le b c):Gx.le a c:=⟨Mem.le_trans h.1 k.1,λx y e=>k.2 x y (h.2 x y e)⟩
def Gx.qX(d:Nat)(g g':Gx):Prop:=Mem.le g.m g'.m/\∀b o,g.x b=some (d,o)->g'.x b=some (d,o)
def Gx.pc(k:ŀ Nat)(g g':Gx):Prop:=Mem.le g.m g'.m/\∀b i o,g.x b=some (i,o)->k≠some i->g'.x b=some (i,o)
theorem Gx.le.pc{g g':Gx}(h:Gx.le g g'):Gx.pc none g g':=⟨h.1,λb i o e _=>h.2 b _ e⟩
theorem Gx.pc.le{g g':Gx}(h:Gx.pc none g g'):Gx.le g g':=⟨h.1,λb y e=>h.2 b y.1 y.2 e ß⟩
theorem Gx.pc.qX{g g':Gx}{k:ŀ Nat}{d:Nat}(h:Gx.pc k g g')(a:k≠some d):Gx.qX d g g':=⟨h.1,λb o e=>h.2 b d o e a⟩
theorem Gx.ZBn{G:Mem}{g g':Gx}{k:ŀ Nat}(h:Gx.le (Gx.of G) g)(h':Gx.pc k g g'):Gx.le (Gx.of G) g':=⟨Mem.le_trans h.1 h'.1,λb y e=>by cases e⟩
structure gr (w0:Bs) (G0:Mem) (g:Gx) (L:Lo) (w:World):Prop where
 st:St w0 G0 g.m L w
 own:∀b i o,g.x b=some (i,o)->w.heap[b]?=some o/\w0.w.heap.size<=b/\(∀k,g.m b k=none)/\∀j y,L.get j=some y->y.b≠b
theorem gr.of{w0:Bs}{G0 G:Mem}{L:Lo}{w:World}(h:St w0 G0 G L w):gr w0 G0 (Gx.of G) L w:=⟨h,λb i o e=>by cases e⟩
abbrev jr:=Ŀ (Nat×(Value->Gx->Prop))
def ς:jr->(Nat->Value)->Fr
 |[],_=>[]
 |p::r,u=>(p.1,u p.1)::ς r u
def kY:jr->(Nat->Value)->Gx->Prop
 |[],_,_=>True
 |p::r,u,G=>p.2 (u p.1) G/\kY r u G
def ñ(ops:Array Oper)(o:Oper):jr->(Nat->Value)->Gx->Prop
 |[],_,_=>True
 |p::r,u,G=>(bif (o.looksAt ops).contains p.1 then p.2 (u p.1) G else True)/\ñ ops o r u G
def iF:ŀ Nat->jr->jr
 |none,Ρ=>Ρ
 |some k,Ρ=>Ρ.map λp=>(p.1,λv g=>bif Nat.beq p.1 k then True else p.2 v g)
def lj(ops:Array Oper)(k:Nat):Bool:=Nat.ble (ops.toList.filter λo=>(o.looksAt ops).contains k).length 1
def gD(P:Program)(ops:Array Oper)(T:Ξ)(Q:ï):Ŀ Oper->Act->World->Prop
 |[],a,w=>T w/\Q .normal a w
 |o::r,a,w=>T w/\if Region.wanted o (yielded ops a.tmps)then o.wp P a w (gD P ops T Q r) Q else gD P ops T Q r (a.put o.dst undef) w
def eY(P:Program)(N:Nat)(ops:Array Oper)(T:Ξ)(Q:ï)(l:Ŀ Oper)(fr:Fr)(S:Ξ):Prop:=∀a w,Rel N fr a->S w->gD P ops T Q l a w
theorem Oper.Ui{P:Program}{o:Oper}{a:Act}{w:World}{K K':Act->World->Prop}{Q:ï}(g:∀a w,K a w->K' a w)(h:o.wp P a w K Q):o.wp P a w K' Q:=by
 unfold Oper.wp at h⊢;generalize (execOp a.eval o).run P w=r at h⊢;cases r with
 |ok x w'=>
  cases x<;>simp only[Oper.upon]at h⊢
  case value v=>exact g _ _ h
  case skip=>exact g _ _ h
  case defer d=>exact g _ _ h
  case enter f args=>
   refine aa1 h λe j i=>?_
   cases e with
   |returned v=>exact g _ _ i
   |panicked c=>exact i
   |outgrown=>exact i
  case row row args=>exact Rows.mono h λv j i=>g _ _ i
 |halt x w'=>cases x<;>simp only[Oper.upon]at h⊢;exact h
theorem KS{P:Program}{ops:Array Oper}{Q:ï}:∀(l:Ŀ Oper) (a:Act) (w:World),wpList P ops (NX Q) l a w->gD P ops (λ_=>True) (NX Q) l a w
 |[],a,w,h=>⟨trivial,h⟩
 |o::r,a,w,h=>by
  unfold wpList at h;refine⟨trivial,?_⟩;split at h
  .rename_i c;rw[ą c];rcases h with h|⟨_,d,e,f⟩
   .exact Oper.Ui (λa w=>KS r a w) h
   exact f.elim
  rename_i c;rw[ā c];exact KS r _ _ h
theorem eY.of{P:Program}{N:Nat}{ops:Array Oper}{Q:ï}{l:Ŀ Oper}{fr:Fr}{S:Ξ}(h:WL P N ops (NX Q) l fr S):eY P N ops (λ_=>True) (NX Q) l fr S:=λa w c d=>KS l a w (h a w c d)
section
variable (P:Program) (N:Nat) (Q:ï) (fr:Fr) (w0:Bs) (G0 G:Mem) (L:Lo) (ops:Array Oper) (Bt:Ξ)
def pE(k:ŀ Nat)(F:Fr)(G':Gx)(o:Oper)(Ψ:Value->Gx->Prop):Prop:=
 (ξ ops F o false/\k=none/\Ψ undef G')\/
 (ξ ops F o true/\YR P N o F (gr w0 G0 G' L) (λv w'=>∃a,Gx.pc k G' a/\gr w0 G0 a L w'/\Ψ v a))
def gE(F:Fr)(G':Gx)(o:Oper)(Ψ:Value->Gx->Prop):Prop:=
 (ξ ops F o false/\Ψ undef G')\/
 (ξ ops F o true/\YR P N o F (gr w0 G0 G' L) (λv w'=>∃a,Gx.le G' a/\gr w0 G0 a L w'/\Ψ v a))
def γ:Ŀ Bool->Ŀ Oper->Fr->jr->Prop
 |[],rest,Ι,Ρ=>∀u G',Gx.le (Gx.of G) G'->kY Ρ u G'->eY P N ops Bt (NX Q) rest (ς Ρ u++(Ι++fr)) (gr w0 G0 G' L)
 |_::_,[],Ι,Ρ=>∀u G',Gx.le (Gx.of G) G'->kY Ρ u G'->eY P N ops Bt (NX Q) [] (ς Ρ u++(Ι++fr)) (gr w0 G0 G' L)
 |true::fs,o::r,Ι,Ρ=>
  (∃c,(∀u G',Gx.le (Gx.of G) G'->ñ ops o Ρ u G'->ξ ops (ς Ρ u++(Ι++fr)) o true/\Y0 P N o (ς Ρ u++(Ι++fr)) Bt c)/\γ fs r (θ o.dst c Ι) Ρ)\/
  (∃d φ,∃c:(Nat->Value)->Value,o.dst=some d/\(∀v a e,Gx.qX d a e->φ v a->φ v e)/\(∀u u':Nat->Value,(∀t,t∈o.looksAt ops->u t=u' t)->c u=c u')/\(∀u G',Gx.le (Gx.of G) G'->ñ ops o Ρ u G'->ξ ops (ς Ρ u++(Ι++fr)) o true/\Y0 P N o (ς Ρ u++(Ι++fr)) Bt (c u)/\φ (c u) G')/\γ fs r Ι ((d,φ)::Ρ))
 |false::fs,o::r,Ι,Ρ=>
  (∃c,(∀u G',Gx.le (Gx.of G) G'->ñ ops o Ρ u G'->gE P N w0 G0 L ops (ς Ρ u++(Ι++fr)) G' o (λv _=>v=c))/\γ fs r (θ o.dst c Ι) Ρ)\/
  (∃d φ,o.dst=some d/\(∀v a e,Gx.qX d a e->φ v a->φ v e)/\(∀u G',Gx.le (Gx.of G) G'->ñ ops o Ρ u G'->gE P N w0 G0 L ops (ς Ρ u++(Ι++fr)) G' o φ)/\γ fs r Ι ((d,φ)::Ρ))\/
  (∃d φ k,o.dst=some d/\Ρ.any (λp=>Nat.beq p.1 k)=true/\(o.looksAt ops).contains k=true/\lj ops k=true/\(∀v a e,Gx.qX d a e->φ v a->φ v e)/\(∀u G',Gx.le (Gx.of G) G'->ñ ops o Ρ u G'->pE P N w0 G0 L ops (some k) (ς Ρ u++(Ι++fr)) G' o φ)/\γ fs r Ι ((d,φ)::iF (some k) Ρ))
theorem gE.o{P:Program}{N:Nat}{w0:Bs}{G0:Mem}{L:Lo}{ops:Array Oper}{F:Fr}{G':Gx}{o:Oper}{Ψ:Value->Gx->Prop}(h:gE P N w0 G0 L ops F G' o Ψ):pE P N w0 G0 L ops none F G' o Ψ:=
 h.imp (λh=>⟨h.1,rfl,h.2⟩) λh=>⟨h.1,λa w d e=>(h.2 a w d e).mono λ_ _ ⟨g,c,h2,h3⟩=>⟨g,c.pc,h2,h3⟩⟩
end
abbrev ft:=Value⊕(ŀ Nat×(Value->Gx->Prop))
def ft.val(e:ft)(u:Nat->Value)(t:Nat):Value:=match e with|.inl c=>c|.inr _=>u t
def ft.post:ft->Value->Gx->Prop
 |.inl c=>λv _=>v=c
 |.inr φ=>φ.2
def ft.lP:ft->ŀ Nat
 |.inl _=>none
 |.inr φ=>φ.1
abbrev vg:=Ŀ (Oper×ft)
def ef:vg->Fr->Fr
 |[],Ι=>Ι
 |(o,.inl c)::r,Ι=>ef r (θ o.dst c Ι)
 |(_,.inr _)::r,Ι=>ef r Ι
def Á:vg->jr->jr
 |[],Ρ=>Ρ
 |(_,.inl _)::r,Ρ=>Á r Ρ
 |(o,.inr φ)::r,Ρ=>Á r (match o.dst with|some d=>(d,φ.2)::iF φ.1 Ρ|none=>Ρ)
theorem Gd{k:ŀ Nat}{Ρ:jr}{p:Nat×(Value->Gx->Prop)}(h:p∈iF k Ρ):∃q∈Ρ,p.1=q.1/\∀v g,(k≠some q.1->p.2 v g=q.2 v g)/\(k=some q.1->p.2 v g=True):=by
 cases k with
 |none=>exact⟨p,h,rfl,λv g=>⟨λ_=>rfl,λe=>by cases e⟩⟩
 |some k=>
  obtain⟨q,d,rfl⟩:=ğ.1 h;refine⟨q,d,rfl,λv g=>⟨λa=>?_,λe=>?_⟩⟩
  .have:Nat.beq q.1 k=false:=by cases c:Nat.beq q.1 k;rfl;exact absurd (Ē some (ĸ c).symm) a
   simp only[this,cond_false]
  cases e;simp
theorem ZxJ(k:ŀ Nat)(u:Nat->Value):∀Ρ:jr,ς (iF k Ρ) u=ς Ρ u:=by
 cases k with
 |none=>exact λ_=>rfl
 |some k=>
  intro Ρ;induction Ρ with
  |nil=>rfl
  |cons p r a=>simp only[iF,ġ,ς]at a⊢;rw[a]
theorem Fr.get_append(A B:Fr)(t:Nat):Fr.get (A++B) t=(A.get t).or (B.get t):=by
 induction A with
 |nil=>simp[Fr.get]
 |cons p A a=>
  simp only[Ļ,Fr.get];cases Nat.beq p.1 t<;>simp[a]
theorem Fr.Zp(t:Nat)(v:Value)(A:Fr)(s:Nat):Fr.get ((t,v)::A) s=if t=s then some v else A.get s:=by
 simp only[Fr.get];by_cases e:t=s
 .subst e;simp
 have:Nat.beq t s=false:=by cases a:Nat.beq t s;rfl;exact absurd (ĸ a) e
 simp[this,e]
theorem ZoE{Ρ:jr}{u:Nat->Value}{t:Nat}(h:∀p∈Ρ,p.1≠t):(ς Ρ u).get t=none:=by
 induction Ρ with
 |nil=>rfl
 |cons p r c=>
  simp only[ς];rw[Fr.Zp,ā (h p ß)];exact c (λq a=>h q (by simp[a]))
section
variable {fr:Fr}{u:Nat->Value}
theorem L8:∀(T:vg) (Ι:Fr) (Ρ:jr) (t:Nat),(∀p∈Ρ,∀q∈T,q.1.dst≠some p.1)->(∀(f g:Nat) (h i:Oper×ft) (d:Nat),T[f]?=some h->T[g]?=some i->h.1.dst=some d->i.1.dst=some d->f=g)->(∀q∈T,∀φ,q.2=.inr φ->q.1.dst.isSome=true)->
  ((∀q∈T,q.1.dst≠some t)->Fr.get (ς (Á T Ρ) u++(ef T Ι++fr)) t=Fr.get (ς Ρ u++(Ι++fr)) t)/\
  (∀q∈T,q.1.dst=some t->Fr.get (ς (Á T Ρ) u++(ef T Ι++fr)) t=some (q.2.val u t))
 |[],Ι,Ρ,t,_,_,_=>⟨λ_=>rfl,λq k=>by simp at k⟩
 |(o,.inl c)::r,Ι,Ρ,t,A,h2,h3=>by
  have s:∀f g (h i:Oper×ft) d,r[f]?=some h->r[g]?=some i->h.1.dst=some d->i.1.dst=some d->f=g:=λf g h i d a b c d'=>by have:=h2 (f+1) (g+1) h i d (by simpa using a) (by simpa using b) c d';omega
  obtain⟨n,x⟩:=L8 r (θ o.dst c Ι) Ρ t (λp hp q k=>A p hp q (by simp[k])) s (λq k=>h3 q (by simp[k]));simp only[ef,Á];refine⟨λv=>?_,λq k l=>?_⟩
  .rw[n (λq k=>v q (by simp[k]))];have E:o.dst≠some t:=v (o,.inl c) ß;rw[Fr.get_append,Fr.get_append,Fr.get_append,Fr.get_append];congr 2;cases l:o.dst with
   |none=>rfl
   |some d=>simp only[θ];rw[Fr.Zp,ā (λe=>E (by rw[l,e]))]
  rcases Ď.1 k with rfl|k
  .have v:∀q∈r,q.1.dst≠some t:=λq zS C=>by
    obtain⟨j,D⟩:=aaM zS;have:=h2 0 (j+1) (o,.inl c) q t ß (by simpa using D) l C;omega
   rw[n v,Fr.get_append,ZoE (λp hp e=>A p hp (o,.inl c) ß (by rw[l,e])),Fr.get_append];simp only at l;rw[l];simp[θ,Fr.Zp,ft.val]
  exact x q k l
 |(o,.inr φ)::r,Ι,Ρ,t,A,h2,h3=>by
  have s:∀f g (h i:Oper×ft) d,r[f]?=some h->r[g]?=some i->h.1.dst=some d->i.1.dst=some d->f=g:=λf g h i d a b c d'=>by have:=h2 (f+1) (g+1) h i d (by simpa using a) (by simpa using b) c d';omega
  obtain⟨d,m⟩:=ek.1 (h3 (o,.inr φ) ß φ rfl);simp only at m;have y:∀q∈r,q.1.dst≠some d:=λq zS C=>by obtain⟨j,D⟩:=aaM zS;have:=h2 0 (j+1) (o,.inr φ) q d ß (by simpa using D) m C;omega
  obtain⟨n,x⟩:=L8 r Ι ((d,φ.2)::iF φ.1 Ρ) t (λp hp q k=>by
   rcases Ď.1 hp with rfl|hp
   .exact y q k
   obtain⟨p0,F,e,_⟩:=Gd hp;rw[e];exact A p0 F q (by simp[k])) s (λq k=>h3 q (by simp[k]))
  simp only[ef,Á,m];refine⟨λv=>?_,λq k l=>?_⟩
  .rw[n (λq k=>v q (by simp[k]))];have E:o.dst≠some t:=v (o,.inr φ) ß;simp only[ς,ZxJ,Ļ];rw[Fr.Zp,ā (λe=>E (by rw[m,e]))]
  rcases Ď.1 k with rfl|k
  .simp only at l;have B:d=t:=by rw[m]at l;simpa using l
   subst B;rw[n y];simp only[ς,Ļ];rw[Fr.Zp,ą rfl];rfl
  exact x q k l
theorem xJ:∀(T:vg) (Ρ:jr) (p:Nat×(Value->Gx->Prop)),p∈Á T Ρ->(∃q,q∈Ρ/\p.1=q.1/\(¬(∀v g,p.2 v g)->∀v g,p.2 v g=q.2 v g)/\(¬(∀v g,p.2 v g)->∀(i:Nat) (q:Oper×ft),T[i]?=some q->q.1.dst.isSome=true->q.2.lP≠some p.1))\/(∀v g,p.2 v g)\/
  ∃(j:Nat) (o:Oper) (φ:ŀ Nat×(Value->Gx->Prop)),T[j]?=some (o,(.inr φ:ft))/\o.dst=some p.1/\(∀v g,p.2 v g=φ.2 v g)/\∀(i:Nat) (q:Oper×ft),j<i->T[i]?=some q->q.1.dst.isSome=true->q.2.lP≠some p.1
 |[],Ρ,p,h=>.inl ⟨p,h,rfl,λ_ _ _=>rfl,λ_ i q a=>by simp at a⟩
 |(o,.inl c)::r,Ρ,p,h=>by
  rcases xJ r Ρ p h with ⟨q,s,h2,h3,l⟩|h|⟨j,o',φ,s,h2,h3,l⟩
  .refine .inl ⟨q,s,h2,h3,λhr i q' a k=>?_⟩;cases i with
   |zero=>simp only[Ĵ,Đ]at a;subst a;simp[ft.lP]
   |succ i=>exact l hr i q' (by simpa using a) k
  .exact .inr (.inl h)
  refine .inr (.inr ⟨j+1,o',φ,by simpa using s,h2,h3,λi q hi a=>?_⟩);obtain⟨i,rfl⟩:∃i',i=i'+1:=⟨i-1,ŉ⟩;exact l i q ŉ (by simpa using a)
 |(o,.inr φ)::r,Ρ,p,h=>by
  by_cases f:(∀v g,p.2 v g)
  .exact .inr (.inl f)
  have n:(∃(j:Nat) (o:Oper) (φ:ŀ Nat×(Value->Gx->Prop)),r[j]?=some (o,(.inr φ:ft))/\o.dst=some p.1/\(∀v g,p.2 v g=φ.2 v g)/\∀(i:Nat) (q:Oper×ft),j<i->r[i]?=some q->q.1.dst.isSome=true->q.2.lP≠some p.1)->
    ∃(j:Nat) (o':Oper) (m:ŀ Nat×(Value->Gx->Prop)),((o,(.inr φ:ft))::r)[j]?=some (o',(.inr m:ft))/\o'.dst=some p.1/\(∀v g,p.2 v g=m.2 v g)/\∀(i:Nat) (q:Oper×ft),j<i->((o,(.inr φ:ft))::r)[i]?=some q->q.1.dst.isSome=true->q.2.lP≠some p.1:=by
   rintro⟨j,o',m,s,h2,h3,l⟩
   refine⟨j+1,o',m,by simpa using s,h2,h3,λi q hi a=>?_⟩
   obtain⟨i,rfl⟩:∃i',i=i'+1:=⟨i-1,ŉ⟩
   exact l i q ŉ (by simpa using a)
  simp only[Á]at h;cases t:o.dst with
  |none=>
   rw[t]at h;rcases xJ r _ p h with ⟨q,s,h2,h3,l⟩|h|h
   .refine .inl ⟨q,s,h2,h3,λhr i q' a k=>?_⟩;cases i with
    |zero=>simp only[Ĵ,Đ]at a;subst a;simp[t]at k
    |succ i=>exact l hr i q' (by simpa using a) k
   .exact .inr (.inl h)
   exact .inr (.inr (n h))
  |some d=>
   rw[t]at h;rcases xJ r _ p h with ⟨q,a,h2,h3,l⟩|h|h
   .rcases Ď.1 a with rfl|a
    .refine .inr (.inr ⟨0,o,φ,ß,by rw[t,h2],h3 f,λi q hi a=>?_⟩);obtain⟨i,rfl⟩:∃i',i=i'+1:=⟨i-1,ŉ⟩;exact l f i q (by simpa using a)
    obtain⟨p0,x,e,y⟩:=Gd a;by_cases u:φ.1=some p0.1
    .exact absurd (λv g=>by rw[h3 f v g,(y v g).2 u];trivial) f
    refine .inl ⟨p0,x,h2.trans e,λhr v g=>by rw[h3 hr v g,(y v g).1 u],λhr i q' a k=>?_⟩;cases i with
    |zero=>simp only[Ĵ,Đ]at a;subst a;simp only[ft.lP];rw[h2,e];exact u
    |succ i=>exact l hr i q' (by simpa using a) k
   .exact .inr (.inl h)
   exact .inr (.inr (n h))
theorem ZxI{Ρ:jr}{u:Nat->Value}{G:Gx}(h:∀p∈Ρ,p.2 (u p.1) G):kY Ρ u G:=by
 induction Ρ with
 |nil=>trivial
 |cons p r c=>exact⟨h p ß,c (λq a=>h q (by simp[a]))⟩
theorem KP{ops:Array Oper}{o:Oper}{Ρ:jr}{u:Nat->Value}{G:Gx}(h:∀p∈Ρ,p.1∈o.looksAt ops->p.2 (u p.1) G):ñ ops o Ρ u G:=by
 induction Ρ with
 |nil=>trivial
 |cons p r d=>
  refine⟨?_,d (λq c=>h q (by simp[c]))⟩;cases a:(o.looksAt ops).contains p.1
  .trivial
  exact h p ß (by simpa using a)
end
section
variable {P:Program}{N:Nat}{Q:ï}{fr:Fr}{w0:Bs}{G0 G:Mem}{L:Lo}{ops:Array Oper}
def wR(ops:Array Oper)(T:vg)(Ρ:jr):Prop:=∀(j:Nat) (o:Oper) (e:ft) (k:Nat),T[j]?=some (o,e)->e.lP=some k->(o.looksAt ops).contains k=true/\lj ops k=true/\((∃p,p∈Ρ/\p.1=k)\/∃(i:Nat) (q:Oper×ft),i<j/\T[i]?=some q/\q.1.dst=some k)
theorem Bv{T:vg}{o:Oper}{d:ft}{Ρ a:jr}(m:∀k,d.lP=some k->(o.looksAt ops).contains k=true/\lj ops k=true/\∃p∈Ρ,p.1=k)
  (t6:wR ops T a)
  (n:∀p∈a,(∃q∈Ρ,q.1=p.1)\/o.dst=some p.1):wR ops ((o,d)::T) Ρ:=by
 intro j o' e k c l
 cases j with
 |zero=>
  simp only[Ĵ,Đ,dA]at c
  obtain⟨rfl,rfl⟩:=c
  obtain⟨f,h2,h3⟩:=m k l
  exact⟨f,h2,.inl h3⟩
 |succ j=>
  simp only[ĭ]at c
  obtain⟨f,h2,h3⟩:=t6 j o' e k c l
  refine⟨f,h2,?_⟩
  rcases h3 with ⟨p,hp,e⟩|⟨i,q,hi,h,g⟩
  .rcases n p hp with ⟨q,h,e'⟩|g
   .exact .inl ⟨q,h,e'.trans e⟩
   exact .inr ⟨0,(o,d),ŉ,ß,by rw[<-e];exact g⟩
  exact .inr ⟨i+1,q,ŉ,by simpa using h,g⟩
theorem y4{Bt:Ξ}(s:∀(X:Gx) w,Gx.le (Gx.of G) X->gr w0 G0 X L w->Bt w):∀(fl:Ŀ Bool) (rest:Ŀ Oper) (Ι:Fr) (Ρ:jr),γ P N Q fr w0 G0 G L ops Bt fl rest Ι Ρ->
  ∃T:vg,T.map (·.1)=rest.take fl.length/\
   (∀j o e,T[j]?=some (o,e)->∀u G',Gx.le (Gx.of G) G'->ñ ops o (Á (T.take j) Ρ) u G'->pE P N w0 G0 L ops e.lP (ς (Á (T.take j) Ρ) u++(ef (T.take j) Ι++fr)) G' o e.post)/\
   (∀q∈T,∀φ,q.2=.inr φ->∃d,q.1.dst=some d/\∀v A B,Gx.qX d A B->φ.2 v A->φ.2 v B)/\
   (∀j o e,T[j]?=some (o,e)->fl.getD j false=true->(∃c,e=.inl c/\∀u G',Gx.le (Gx.of G) G'->ñ ops o (Á (T.take j) Ρ) u G'->ξ ops (ς (Á (T.take j) Ρ) u++(ef (T.take j) Ι++fr)) o true/\Y0 P N o (ς (Á (T.take j) Ρ) u++(ef (T.take j) Ι++fr)) Bt c)\/
    (∃φ,∃c:(Nat->Value)->Value,e=.inr (none,φ)/\(∀u u':Nat->Value,(∀t,t∈o.looksAt ops->u t=u' t)->c u=c u')/\∀u G',Gx.le (Gx.of G) G'->ñ ops o (Á (T.take j) Ρ) u G'->ξ ops (ς (Á (T.take j) Ρ) u++(ef (T.take j) Ι++fr)) o true/\Y0 P N o (ς (Á (T.take j) Ρ) u++(ef (T.take j) Ι++fr)) Bt (c u)/\φ (c u) G'))/\
   (∀u G',Gx.le (Gx.of G) G'->kY (Á T Ρ) u G'->eY P N ops Bt (NX Q) (rest.drop fl.length) (ς (Á T Ρ) u++(ef T Ι++fr)) (gr w0 G0 G' L))/\
   wR ops T Ρ
 |[],rest,Ι,Ρ,h=>⟨[],ß,ß,ß,ß,by simpa[Á,ef,γ]using h,by intro j o e k g;simp at g⟩
 |f::fs,[],Ι,Ρ,h=>⟨[],ß,ß,ß,ß,by cases f<;>simpa[Á,ef,γ]using h,by intro j o e k g;simp at g⟩
 |true::fs,o::r,Ι,Ρ,h=>by
  simp only[γ]at h;rcases h with ⟨c,hp,hr⟩|⟨d,φ,c,n,D,I,hp,hr⟩
  rotate_left
  .obtain⟨T,t1,t2,t3,t5,t4,t6⟩:=y4 s fs r Ι _ hr;refine⟨(o,.inr (none,φ))::T,by simp[t1],λj o' e g=>?_,λq m=>?_,λj o' e g x=>?_,by simpa[Á,ef,n,iF]using t4,?_⟩
   .cases j with
    |zero=>
     simp only[Ĵ,Đ,dA]at g;obtain⟨rfl,rfl⟩:=g;intro u G' i l;simp only[ř,Á,ef,ft.post]at l⊢;obtain⟨R,h2,h3⟩:=hp u G' i l;exact .inr ⟨R,λa w H E=>by rw[h2 a w H (s _ _ i E)];exact⟨G',(Gx.le_refl _).pc,E,h3⟩⟩
    |succ j=>
     simp only[ĭ]at g;simpa[Á,ef,n,iF]using t2 j o' e g
   .rcases Ď.1 m with rfl|m
    .intro F y;cases y;exact⟨d,n,D⟩
    exact t3 q m
   .cases j with
    |zero=>
     simp only[Ĵ,Đ,dA]at g;obtain⟨rfl,rfl⟩:=g;exact .inr ⟨φ,c,rfl,I,by simpa[Á,ef]using hp⟩
    |succ j=>
     simp only[ĭ]at g;simpa[Á,ef,n,iF]using t5 j o' e g (by simpa using x)
   exact Bv (λ_=>by simp[ft.lP]) t6 (λp hp=>by
    rcases Ď.1 hp with rfl|hp
    .exact .inr n
    exact .inl ⟨p,hp,rfl⟩)
  obtain⟨T,t1,t2,t3,t5,t4,t6⟩:=y4 s fs r _ Ρ hr;refine⟨(o,.inl c)::T,by simp[t1],λj o' e g=>?_,λq m=>?_,λj o' e g x=>?_,by simpa[Á,ef]using t4,?_⟩
  .cases j with
   |zero=>
    simp only[Ĵ,Đ,dA]at g;obtain⟨rfl,rfl⟩:=g;intro u G' i l;simp only[ř,Á,ef,ft.post]at l⊢;exact .inr ⟨(hp u G' i l).1,λa w H E=>by rw[(hp u G' i l).2 a w H (s _ _ i E)];exact⟨G',(Gx.le_refl _).pc,E,rfl⟩⟩
   |succ j=>
    simp only[ĭ]at g;simpa[Á,ef]using t2 j o' e g
  .rcases Ď.1 m with rfl|m
   .intro φ y;cases y
   exact t3 q m
  .cases j with
   |zero=>
    simp only[Ĵ,Đ,dA]at g;obtain⟨rfl,rfl⟩:=g;exact .inl ⟨c,rfl,by simpa[Á,ef]using hp⟩
   |succ j=>
    simp only[ĭ]at g;simpa[Á,ef]using t5 j o' e g (by simpa using x)
  exact Bv (λ_=>by simp[ft.lP]) t6 (λp hp=>.inl ⟨p,hp,rfl⟩) 
 |false::fs,o::r,Ι,Ρ,h=>by
  simp only[γ]at h;rcases h with ⟨c,hp,hr⟩|⟨d,φ,n,D,hp,hr⟩|⟨d,φ,k,n,C,J,K,D,hp,hr⟩
  .obtain⟨T,t1,t2,t3,t5,t4,t6⟩:=y4 s fs r _ Ρ hr;refine⟨(o,.inl c)::T,by simp[t1],λj o' e g=>?_,λq m=>?_,λj o' e g x=>?_,by simpa[Á,ef]using t4,?_⟩
   .cases j with
    |zero=>
     simp only[Ĵ,Đ,dA]at g;obtain⟨rfl,rfl⟩:=g;intro u G' i l;exact(hp u G' i (by simpa[Á]using l)).o
    |succ j=>
     simp only[ĭ]at g;simpa[Á,ef]using t2 j o' e g
   .rcases Ď.1 m with rfl|m
    .intro φ y;cases y
    exact t3 q m
   .cases j with
    |zero=>simp at x
    |succ j=>
     simp only[ĭ]at g;simpa[Á,ef]using t5 j o' e g (by simpa using x)
   exact Bv (λ_=>by simp[ft.lP]) t6 (λp hp=>.inl ⟨p,hp,rfl⟩)
  .obtain⟨T,t1,t2,t3,t5,t4,t6⟩:=y4 s fs r Ι _ hr;refine⟨(o,.inr (none,φ))::T,by simp[t1],λj o' e g=>?_,λq m=>?_,λj o' e g x=>?_,by simpa[Á,ef,n,iF]using t4,?_⟩
   .cases j with
    |zero=>
     simp only[Ĵ,Đ,dA]at g;obtain⟨rfl,rfl⟩:=g;intro u G' i l;exact(hp u G' i (by simpa[Á]using l)).o
    |succ j=>
     simp only[ĭ]at g;simpa[Á,ef,n,iF]using t2 j o' e g
   .rcases Ď.1 m with rfl|m
    .intro F y;cases y;exact⟨d,n,D⟩
    exact t3 q m
   .cases j with
    |zero=>simp at x
    |succ j=>
     simp only[ĭ]at g;simpa[Á,ef,n,iF]using t5 j o' e g (by simpa using x)
   exact Bv (λ_=>by simp[ft.lP]) t6 (λp hp=>by
    rcases Ď.1 hp with rfl|hp
    .exact .inr n
    exact .inl ⟨p,hp,rfl⟩)
  obtain⟨T,t1,t2,t3,t5,t4,t6⟩:=y4 s fs r Ι _ hr;refine⟨(o,.inr (some k,φ))::T,by simp[t1],λj o' e g=>?_,λq m=>?_,λj o' e g x=>?_,by simpa[Á,ef,n]using t4,?_⟩
  .cases j with
   |zero=>
    simp only[Ĵ,Đ,dA]at g;obtain⟨rfl,rfl⟩:=g;intro u G' i l;exact hp u G' i (by simpa[Á]using l)
   |succ j=>
    simp only[ĭ]at g;simpa[Á,ef,n]using t2 j o' e g
  .rcases Ď.1 m with rfl|m
   .intro F y;cases y;exact⟨d,n,D⟩
   exact t3 q m
  .cases j with
   |zero=>simp at x
   |succ j=>
    simp only[ĭ]at g;simpa[Á,ef,n]using t5 j o' e g (by simpa using x)
  refine Bv (λS O=>?_) t6 (λp hp=>?_)
  .simp only[ft.lP,Đ]at O;subst O;simp only[dI]at C;obtain⟨p,hp,e⟩:=C;exact⟨J,K,⟨p,hp,ĸ e⟩⟩
  rcases Ď.1 hp with rfl|hp
  .exact .inr n
  obtain⟨q,m,e,_⟩:=Gd hp;exact .inl ⟨q,m,e.symm⟩
end
def pw(N:Nat)(l:Ŀ Oper)(n:Nat):Bool:=
 let A:=iS .any l []
 let ops:=l.toArray
 let L:=(l.take n).zipIdx
 L.all λp=>(match p.1.dst with
  |none=>true
  |some t=>Nat.blt t N&&L.all λq=>Nat.beq p.2 q.2 || ((match q.1.dst with|none=>true|some s=>!Nat.beq t s) &&
    (!((q.1.looksAt ops).contains t) || bif Nat.blt p.2 q.2 then(A.getD q.2 []).contains p.2 else(A.getD p.2 []).contains q.2)))
def fQ(l:Ŀ Oper)(fl:Ŀ Bool):Bool:=
 let A:=iS .any l []
 let ops:=l.toArray
 (List.range fl.length).all λi=>!fl.getD i false || ((l[i]?).map λa=>
  (List.range l.length).all λk=>((l[k]?).map λok=>
   (Nat.blt k fl.length || (((A.getD k []).contains i || (match ok.dst with|none=>true|some t=>!(a.looksAt ops).contains t&&(match a.dst with|none=>true|some s=>!Nat.beq t s))) &&
    (match a.dst with|none=>true|some t=>!(ok.looksAt ops).contains t || (A.getD k []).contains i))) &&
   (!(Nat.ble k i&&fl.getD k false) || (match a.dst with|none=>true|some t=>!(ok.looksAt ops).contains t))).getD true).getD true
def jh(N:Nat)(l:Ŀ Oper)(fl:Ŀ Bool):Bool:=lQ .any l&&iM .any l fl&&pw N l fl.length&&Region.noSelect l.toArray&&fQ l fl
theorem xt{l:Ŀ Oper}{fl:Ŀ Bool}(h:fQ l fl=true){i k:Nat}{g ok:Oper}(hi:i<fl.length)(u:fl.getD i false=true)(r:l[i]?=some g)(d:l[k]?=some ok):
  (fl.length<=k->(∀t,i ∉ (iS .any l []).getD k []->ok.dst=some t->t ∉ g.looksAt l.toArray/\g.dst≠some t)/\(∀t,g.dst=some t->t∈ok.looksAt l.toArray->i∈(iS .any l []).getD k []))/\
  (k<=i->fl.getD k false=true->∀t,g.dst=some t->t ∉ ok.looksAt l.toArray):=by
 simp only[fQ,Ć,Ľ,Ķ,Ř]at h
 have p:k<l.length:=(ċ.1 d).1
 have j:=(h i hi).resolve_left (by rw[u];simp)
 rw[r]at j
 simp only[Ğ,Ś,Ć,Ľ]at j
 have h2:=j k p
 rw[d]at h2
 simp only[Ğ,Ś,ĉ,Ķ,aaI]at h2
 obtain⟨h3,c⟩:=h2
 refine⟨λx=>?_,λn m t f=>?_⟩
 .have s:=h3.resolve_left ŉ
  refine⟨λt q f=>?_,λt f v=>?_⟩
  .have a:=s.1
   rw[show((iS .any l []).getD k []).contains i=false by simpa using q]at a
   rw[f]at a
   simp only[Ŝ,false_or,ĉ,Ř]at a
   refine⟨by simpa using a.1,λe=>?_⟩
   have h7:=a.2
   rw[e]at h7
   simp at h7
  have a:=s.2
  rw[f]at a
  simp only[Ķ,Ř]at a
  rcases a with a|a
  .simp at a;exact absurd v a
  simpa using a
 rcases c with c|c
 .simp only[Ř,aaG]at c
  rcases c with c|c
  .have:Nat.ble k i=true:=by simpa using n
   rw[this]at c;cases c
  rw[m]at c;cases c
 rw[f]at c
 simpa using c
theorem rj{N:Nat}{l:Ŀ Oper}{n:Nat}(h:pw N l n=true){i:Nat}{o:Oper}{t:Nat}(hi:i<n)(u:l[i]?=some o)(r:o.dst=some t):
  t<N/\∀j o',j<n->l[j]?=some o'->i≠j->o'.dst≠some t/\(t∈o'.looksAt l.toArray->(i<j->i∈(iS .any l []).getD j [])/\(j<i->j∈(iS .any l []).getD i [])):=by
 simp only[pw,Ć]at h
 have p:∀j o',j<n->l[j]?=some o'->(o',j)∈(l.take n).zipIdx:=λj o' g k=>by rw[List.mem_zipIdx_iff_getElem?];simp only[Ŏ,ą g];exact k
 have c:=h (o,i) (p i o hi u)
 simp only[r,ĉ,Ć,aaI]at c
 refine⟨c.1,λj o' g k m=>?_⟩
 have d:=c.2 (o',j) (p j o' g k)
 have a:Nat.beq i j=false:=by cases a:Nat.beq i j;rfl;exact absurd (ĸ a) m
 simp only[a,Ł,ĉ,Ķ]at d
 refine⟨λe=>?_,λtP=>?_⟩
 .have h2:=d.1
  simp only[e]at h2
  simp at h2
 have h2:=d.2
 have q:(o'.looksAt l.toArray).contains t=true:=by simpa using tP
 rw[q]at h2
 simp only[Bool.not_true,Ŝ,false_or]at h2
 refine⟨λf=>?_,λs=>?_⟩
 .rw[show Nat.blt i j=true by simpa using f]at h2
  simpa using h2
 rw[show Nat.blt i j=false by cases a:Nat.blt i j;rfl;rw[aaI]at a;omega]at h2
 simpa using h2
def fill(F:Fr)(a:Act):Act:={ tmps:=a.tmps.mapIdx λt x=>(F.get t).getD x,defers:=a.defers }
theorem zr(F:Fr)(a:Act)(t:Nat):(fill F a).tmps[t]?=(a.tmps[t]?).map λx=>(F.get t).getD x:=by simp[fill]
theorem L3{N:Nat}{F:Fr}{a:Act}(d:a.defers=[])(e:a.tmps.size=N)(c:∀t v,F.get t=some v->t<N):Rel N F (fill F a) where
 defers:=d
 size:=by simp[fill,e]
 here:=λt v h=>by rw[zr];have:=c t v h;rw[Ō ŉ];simp[h]
theorem KZ{ops:Array Oper}{o:Oper}{a b:Act}(c:∀cs q,o.op≠.select cs q)(h:∀t,t∈o.looksAt ops->a.tmps[t]?=b.tmps[t]?):execOp a.eval o=execOp b.eval o:=by
 refine execOp_congr o c λx d=>?_;cases x with
 |tmp t=>
  have:=h t (List.mem_append_left _ (List.mem_filterMap.2 ⟨.tmp t,by simpa using d,rfl⟩));simp[Act.eval,this]
 |_=>rfl
theorem JZ{ops:Array Oper}{o:Oper}{a b:Act}(h:∀t,t∈o.looksAt ops->a.tmps[t]?=b.tmps[t]?):Region.wanted o (yielded ops a.tmps)=Region.wanted o (yielded ops b.tmps):=by
 unfold Region.wanted;cases e:o.guard with
 |none=>rfl
 |some d=>
  obtain⟨g,c⟩:=d;have i:yielded ops a.tmps g=yielded ops b.tmps g:=by
   unfold yielded;cases f:(ops[g]?).bind (·.dst)with
   |none=>rfl
   |some t=>
    have:=h t (List.mem_append_right _ (by simp[e,f]));simp[this]
  simp only[i]
theorem filter_one{α:Type}(f:α->Bool):∀(l:Ŀ α) (i j:Nat) (a b:α),(l.filter f).length<=1->l[i]?=some a->l[j]?=some b->f a=true->f b=true->i<j->False
 |[],i,j,a,b,_,h,_,_,_,_=>by simp at h
 |x::l,0,j+1,a,b,c,d,h2,e,g,_=>by simp only[Ĵ,Đ]at d;subst d;simp only[ĭ]at h2;have:b∈l.filter f:=Ő.2 ⟨Ň h2,g⟩;have:=List.length_pos_of_mem this;simp only[ő,e,if_true,Ę]at c;omega
 |x::l,i+1,j+1,a,b,c,d,h2,e,g,k=>by
  simp only[ĭ]at d h2;refine filter_one f l i j a b ?_ d h2 e g ŉ;simp only[ő]at c;split at c
  .simp only[Ę]at c;omega
  exact c
theorem Mr{l:Ŀ Oper}{k i j:Nat}{o o':Oper}(h:lj l.toArray k=true)(c:l[i]?=some o)(h2:l[j]?=some o')(e:(o.looksAt l.toArray).contains k=true)(lD:(o'.looksAt l.toArray).contains k=true):i=j:=by
 have d:=Ĩ h;rcases aay i j with a|a|a
 .exact (filter_one _ _ i j o o' d c h2 e lD a).elim
 .exact a
 exact(filter_one _ _ j i o' o d h2 c lD e a).elim
section
variable {P:Program}{N:Nat}{Q:ï}{fr:Fr}{w0:Bs}{G0 G:Mem}{L:Lo}{l:Ŀ Oper}
set_option maxHeartbeats 1000000 in
theorem Gj:∀(T:vg) (Ρ:jr) (p:Nat×(Value->Gx->Prop)),p∈Á T Ρ->(∃q∈Ρ,q.1=p.1)\/∃(j:Nat) (q:Oper×ft),T[j]?=some q/\q.1.dst=some p.1
 |[],Ρ,p,h=>.inl ⟨p,h,rfl⟩
 |(o,.inl c)::r,Ρ,p,h=>by
  rcases Gj r Ρ p h with h|⟨j,q,a,h2⟩
  .exact .inl h
  exact .inr ⟨j+1,q,by simpa using a,h2⟩
 |(o,.inr φ)::r,Ρ,p,h=>by
  simp only[Á]at h;cases f:o.dst with
  |none=>
   rw[f]at h;rcases Gj r _ p h with h|⟨j,q,a,h2⟩
   .exact .inl h
   exact .inr ⟨j+1,q,by simpa using a,h2⟩
  |some d=>
   rw[f]at h;rcases Gj r _ p h with ⟨q,i,e⟩|⟨j,q,a,h2⟩
   .rcases Ď.1 i with rfl|i
    .exact .inr ⟨0,(o,.inr φ),ß,by rw[<-e];exact f⟩
    obtain⟨p0,g,k,_⟩:=Gd i;exact .inl ⟨p0,g,k.symm.trans e⟩
   exact .inr ⟨j+1,q,by simpa using a,h2⟩
theorem Ro{u u':Nat->Value}:∀{Ρ:jr},(∀p∈Ρ,u p.1=u' p.1)->ς Ρ u=ς Ρ u'
 |[],_=>rfl
 |p::r,h=>by simp only[ς];rw[h p ß,Ro λq a=>h q (by simp[a])]
theorem QJ{ops:Array Oper}{o:Oper}{u u':Nat->Value}{G:Gx}:∀{Ρ:jr},(∀p∈Ρ,u p.1=u' p.1)->ñ ops o Ρ u G->ñ ops o Ρ u' G
 |[],_,_=>trivial
 |p::r,h,a=>⟨by rw[<-h p ß];exact a.1,QJ (λq c=>h q (by simp[c])) a.2⟩
theorem nm{Bt:Ξ}{R:Act->World->Prop}(hR:∀a w,wpAny P .any l.toArray Q l.toArray.size (Array.replicate l.toArray.size false) a { w with drawn:=w.drawn+1 }->R a w)(bg:Mem.le G0 G->∀(X:Gx) w,Gx.le (Gx.of G) X->gr w0 G0 X L w->Bt w)(fl:Ŀ Bool)(hB:jh N l fl=true)(h:Mem.le G0 G->γ P N Q fr w0 G0 G L l.toArray Bt fl l [] []):
  ∀a w,Rel N fr a->St w0 G0 G L w->R a w:=by
 intro a w ha hw
 replace h:=h hw.base
 replace bg:=bg hw.base
 revert a w
 simp only[jh,ĉ]at hB
 obtain⟨⟨⟨⟨hE,hT⟩,hS⟩,bC⟩,aw⟩:=hB
 obtain⟨T,t1,t2,t3,t5,t4,t6⟩:=y4 bg fl l [] [] h
 generalize hn:fl.length=n at *
 have b6:T.length=min n l.length:=by have:=Ē List.length t1;simpa using this
 have E:∀(j:Nat) (q:Oper×ft),T[j]?=some q->j<n/\l[j]?=some q.1:=by
  intro j q g;have A:(T.map (·.1))[j]?=some q.1:=by simp[g]
  rw[t1,Ŏ]at A;split at A
  .exact⟨by assumption,A⟩
  cases A
 have bt:∀(j:Nat) (o:Oper),j<n->l[j]?=some o->∃e,T[j]?=some (o,e):=by
  intro j o g hl;have bs:j<T.length:=by have:=(ċ.1 hl).1;omega
  refine⟨T[j].2,?_⟩;rw[Ą bs];have A:=(E j T[j] (Ą bs)).2;rw[hl]at A;cases A;rfl
 have aI:∀(aj ag:Nat) (ak ah:Oper×ft) (d:Nat),T[aj]?=some ak->T[ag]?=some ah->ak.1.dst=some d->ah.1.dst=some d->aj=ag:=by intro aj ag ak ah d A h2 e1 e2;apply Š;intro aa;obtain⟨a1,O⟩:=E aj ak A;obtain⟨a2,b2⟩:=E ag ah h2;exact((rj hS a1 O e1).2 ag ah.1 a2 b2 aa).1 e2
 have ap:=Region.noSelect_spec bC
 intro a w ha hw
 have H:∀(i:Nat) (u:Nat->Value) (t:Nat),
   ((∀j q,j<i->T[j]?=some q->q.1.dst≠some t)->Fr.get (ς (Á (T.take i) []) u++(ef (T.take i) []++fr)) t=fr.get t)/\
   (∀(j:Nat) (q:Oper×ft),j<i->T[j]?=some q->q.1.dst=some t->Fr.get (ς (Á (T.take i) []) u++(ef (T.take i) []++fr)) t=some (q.2.val u t)):=by
  intro i u t
  have aD:∀(j:Nat) (q:Oper×ft),(T.take i)[j]?=some q->j<i/\T[j]?=some q:=by
   intro j q g;rw[Ŏ]at g;split at g
   .exact⟨by assumption,g⟩
   cases g
  obtain⟨f1,f2⟩:=L8 (fr:=fr) (u:=u) (T.take i) [] [] t ß (λaj ag ak ah d A h2=>aI aj ag ak ah d (aD _ _ A).2 (aD _ _ h2).2)
   (λq hq φ I=>by obtain⟨d,hd,_⟩:=t3 q (œ hq) φ I;rw[hd];rfl)
  refine⟨λhn=>?_,λj q g hq hd=>?_⟩
  .rw[f1 (λq hq=>by
    obtain⟨j,g⟩:=aaM hq;exact hn j q (aD j q g).1 (aD j q g).2)]
   rfl
  refine f2 q ?_ hd
  have:(T.take i)[j]?=some q:=by rw[Ŏ,ą g];exact hq
  exact Ň this
 let Inv:(Nat->Prop)->Act->World->Prop:=λD a w=>∃(u:Nat->Value) (G':Gx),Gx.le (Gx.of G) G'/\gr w0 G0 G' L w/\a.defers=[]/\a.tmps.size=N/\
  (∀(j:Nat) (q:Oper×ft) (t:Nat),T[j]?=some q->q.1.dst=some t->(D j->a.tmps[t]?=some (q.2.val u t)/\∀φ,q.2=.inr φ->(∀(i:Nat) (q':Oper×ft),T[i]?=some q'->D i->q'.2.lP≠some t)->φ.2 (u t) G')/\(¬D j->∀v,fr.get t=some v->a.tmps[t]?=some v))/\
  (∀t,(∀(j:Nat) (q:Oper×ft),T[j]?=some q->q.1.dst≠some t)->∀v,fr.get t=some v->a.tmps[t]?=some v)
 let aL:(Nat->Prop)->Nat->Act->World->Prop:=λD m a w=>∃(u:Nat->Value) (af:Act),(∃G':Gx,Gx.le (Gx.of G) G'/\∀(j:Nat) (q:Oper×ft) (t:Nat) (φ:ŀ Nat×(Value->Gx->Prop)),T[j]?=some q->q.1.dst=some t->q.2=.inr φ->(∀(i:Nat) (q':Oper×ft),T[i]?=some q'->q'.2.lP≠some t)->φ.2 (u t) G')/\gD P l.toArray Bt (NX Q) (l.drop m) af w/\a.defers=af.defers/\a.tmps.size=N/\af.tmps.size=N/\
  (∀t,(∀(j:Nat) (q:Oper×ft),T[j]?=some q->fl.getD j false=true->¬D j->q.1.dst≠some t)->a.tmps[t]?=af.tmps[t]?)/\
  (∀(j:Nat) (q:Oper×ft) (t:Nat),T[j]?=some q->fl.getD j false=true->¬D j->q.1.dst=some t->af.tmps[t]?=some (q.2.val u t))/\
  (∀(j:Nat) (q:Oper×ft),T[j]?=some q->fl.getD j false=true->¬D j->∀t,t∈q.1.looksAt l.toArray->∀v,Fr.get (ς (Á (T.take j) []) u++(ef (T.take j) []++fr)) t=some v->af.tmps[t]?=some v)/\
  (∀(j:Nat) (q:Oper×ft),T[j]?=some q->fl.getD j false=true->¬D j->∃c,(∀t,q.1.dst=some t->q.2.val u t=c)/\∀G',Gx.le (Gx.of G) G'->ñ l.toArray q.1 (Á (T.take j) []) u G'->ξ l.toArray (ς (Á (T.take j) []) u++(ef (T.take j) []++fr)) q.1 true/\Y0 P N q.1 (ς (Á (T.take j) []) u++(ef (T.take j) []++fr)) Bt c)
 have b5:∀j,fl.getD j false=true->j<n:=λj g=>by
  rcases ş j n with h|h
  .exact h
  rw[Ģ,ń ŉ]at g;cases g
 refine hR _ _ (Zt8 (fl:=fl) Inv aL hE hT ?_ ?_ ?_ ?_ ?_ ?_)
 .exact⟨λ_=>undef,Gx.of G,Gx.le_refl _,gr.of hw.drew,ha.defers,ha.size,λj q t _ _=>⟨λh=>h.elim,λ_ v hv=>ha.here t v hv⟩,λt _ v hv=>ha.here t v hv⟩
 .intro D a w i o hc _ hi Y aA hr hI
  rw[hn]at hi
  obtain⟨u,G',aH,aK,hd,W,ae,al⟩:=hI
  obtain⟨e,ab⟩:=bt i o hi Y
  have S:=yT hc i o Y hr
  let F:Fr:=ς (Á (T.take i) []) u++(ef (T.take i) []++fr)
  have hF:∀t v,F.get t=some v->t<N:=by
   intro t v hv;by_cases C:∃(j:Nat) (q:Oper×ft),j<i/\T[j]?=some q/\q.1.dst=some t
   .obtain⟨j,q,A,h2,h3⟩:=C;obtain⟨a1,O⟩:=E j q h2;exact(rj hS a1 O h3).1
   have:=(H i u t).1 (λj q A h2 h3=>C ⟨j,q,A,h2,h3⟩);have mf:fr.get t=some v:=by rw[<-this];exact hv
   have:=ha.here t v mf;have:=(ĕ.1 this).1;have bB:=ha.size;omega
  have V:∀t,t∈o.looksAt l.toArray->(fill F a).tmps[t]?=a.tmps[t]?:=by
   intro t K;rw[zr];cases hx:a.tmps[t]? with
   |none=>rfl
   |some x=>
    simp only[Ğ,Đ];cases J:F.get t with
    |none=>rfl
    |some v=>
     simp only[Ś];have key:a.tmps[t]?=some v:=by
      by_cases C:∃(j:Nat) (q:Oper×ft),j<i/\T[j]?=some q/\q.1.dst=some t
      .obtain⟨j,q,A,h2,h3⟩:=C;have hv:=(H i u t).2 j q A h2 h3;have b0:q.2.val u t=v:=by rw[J]at hv;simpa using hv.symm
       obtain⟨a1,O⟩:=E j q h2;have hD:D j:=S j (((rj hS a1 O h3).2 i o hi Y ŉ).2 K |>.1 A);rw[<-b0];exact((ae j q t h2 h3).1 hD).1
      have hb:=(H i u t).1 (λj q A h2 h3=>C ⟨j,q,A,h2,h3⟩);have mf:fr.get t=some v:=by rw[<-hb];exact J
      by_cases a9:∃(j:Nat) (q:Oper×ft),T[j]?=some q/\q.1.dst=some t
      .obtain⟨j,q,h2,h3⟩:=a9;have an:i<=j:=by
        rcases ş j i with h|h
        .exact absurd ⟨j,q,h,h2,h3⟩ C
        exact h
       have bV:¬D j:=by
        rcases ş i j with h|h
        .intro av;obtain⟨a1,O⟩:=E j q h2;have bi:=(((rj hS a1 O h3).2 i o hi Y ŉ).2 K).2 h;exact aA (yT hc j q.1 O (λe I hb=>hc j q.1 (by simpa using O) av e I hb) i bi)
        have:i=j:=ŉ;subst this;exact aA
       exact(ae j q t h2 h3).2 bV v mf
      exact al t (λj q h2 h3=>a9 ⟨j,q,h2,h3⟩) v mf
     rw[hx]at key;simpa using key.symm
  have ai:Rel N F (fill F a):=L3 hd W hF
  have C:execOp (fill F a).eval o=execOp a.eval o:=KZ (λcs b=>ap i o cs b (by simpa using Y)) V
  have aB:Region.wanted o (yielded l.toArray (fill F a).tmps)=Region.wanted o (yielded l.toArray a.tmps):=JZ V
  have bZ:ñ l.toArray o (Á (T.take i) []) u G':=by
   refine KP λp hp aJ=>?_;rcases xJ (T.take i) [] p hp with ⟨q,h,_⟩|h|⟨j,o',φ,A,h2,h3,_⟩
   .cases h
   .exact h _ _
   rw[Ŏ]at A;split at A
   .rename_i an;obtain⟨a1,O⟩:=E j _ A;have hD:D j:=S j (((rj hS a1 O h2).2 i o hi Y ŉ).2 aJ |>.1 an);rw[h3];refine((ae j _ p.1 A h2).1 hD).2 φ rfl λi' q' kB bl I=>aA ?_;obtain⟨e1,e2,_⟩:=t6 i' q'.1 q'.2 p.1 kB I;have:=Mr e2 (E i' q' kB).2 Y e1 (by simpa using aJ);rw[<-this];exact bl
   cases A
  have bX:=t2 i o e ab u G' aH bZ
  have Z:∀v w' au,Gx.pc e.lP G' au->gr w0 G0 au L w'->e.post v au->Inv (λj=>D j\/j=i) (a.put o.dst v) w':=by
   intro v w' au ba bD ad;let u':Nat->Value:=λt=>if o.dst=some t then v else u t
   refine⟨u',au,Gx.ZBn aH ba,bD,by cases o.dst<;>exact hd,by cases o.dst<;>simpa[Act.put]using W,λj q t g k=>?_,λt hn x hx=>?_⟩
   .by_cases an:j=i
    .subst an;rw[ab]at g;cases g;simp only at k;refine⟨λ_=>?_,λh=>absurd (Or.inr rfl) h⟩;have aR:=(rj hS hi Y k).1;refine⟨?_,λφ I _=>?_⟩
     .rw[k];simp only[Act.put];rw[Ų ŉ];cases e with
      |inl c=>simp only[ft.post]at ad;simp[ft.val,ad]
      |inr φ=>simp[ft.val,u',k]
     simp only at I;subst I;simp only[u',k,if_true];exact ad
    have aa:o.dst≠some t:=λI=>an (aI j i q (o,e) t g ab k I);have U:(a.put o.dst v).tmps[t]?=a.tmps[t]?:=by
     cases lD:o.dst with
     |none=>rfl
     |some s=>
      simp only[Act.put];rw[Ŗ (λe=>aa (by rw[lD,e]))]
    have Nz:u' t=u t:=by simp only[u'];rw[ā aa]
    have aS:q.2.val u' t=q.2.val u t:=by
     cases q.2 with
     |inl c=>rfl
     |inr φ=>simp only[ft.val];exact Nz
    rw[U,aS];refine⟨λhD=>?_,λhD=>(ae j q t g k).2 (λh=>hD (.inl h))⟩;have av:D j:=hD.resolve_right an;have:=(ae j q t g k).1 av;refine⟨this.1,λφ I bc=>?_⟩;rw[Nz];obtain⟨d,oG,nQ⟩:=t3 q (Ň g) φ I;have bS:d=t:=by rw[oG]at k;simpa using k
    subst bS;exact nQ _ _ _ (ba.qX (bc i _ ab (.inr rfl))) (this.2 φ I λi' q' A h2=>bc i' q' A (.inl h2))
   have aa:o.dst≠some t:=hn i (o,e) ab;have U:(a.put o.dst v).tmps[t]?=a.tmps[t]?:=by
    cases lD:o.dst with
    |none=>rfl
    |some s=>
     simp only[Act.put];rw[Ŗ (λe=>aa (by rw[lD,e]))]
   rw[U];exact al t hn x hx
  unfold wpOp
  have aQ:l.toArray[i]?=some o:=by simpa using Y
  simp only[aQ]
  rcases bX with ⟨hg,hk,ad⟩|⟨hg,b3⟩
  .rw[ā (by rw[<-aB,ai.wanted hg];simp)]
   exact Z undef w G' (by rw[hk];exact(Gx.le_refl _).pc) aK ad
  rw[ą (by rw[<-aB,ai.wanted hg])]
  have bd:=b3 (fill F a) w ai aK
  rw[C]at bd
  exact .inl (bd.wp λv w' ⟨au,A,h2,h3⟩=>Z v w' au A h2 h3)
 .-- bJ kn
  intro D a w aE aM _ hI
  obtain⟨u0,G',aH,aK,hd,W,aY,al⟩:=hI
  have bj:∀m,∃u:Nat->Value,(∀t,(∀(j:Nat) (q:Oper×ft),j<m->T[j]?=some q->fl.getD j false=true->¬D j->q.1.dst≠some t)->u t=u0 t)/\
    ∀(j:Nat) (o:Oper) (e:ft),j<m->T[j]?=some (o,e)->fl.getD j false=true->¬D j->e.lP=none/\∃c,(∀t,o.dst=some t->e.val u t=c)/\∀G',Gx.le (Gx.of G) G'->ñ l.toArray o (Á (T.take j) []) u G'->ξ l.toArray (ς (Á (T.take j) []) u++(ef (T.take j) []++fr)) o true/\Y0 P N o (ς (Á (T.take j) []) u++(ef (T.take j) []++fr)) Bt c/\∀φ,e=.inr φ->φ.2 c G':=by
   intro m
   induction m with
   |zero=>exact⟨u0,λ_ _=>rfl,λj _ _ h=>absurd h (ĵ j)⟩
   |succ m ih=>
    obtain⟨u,A,h2⟩:=ih
    have bf:(∀(o:Oper) (e:ft),T[m]?=some (o,e)->fl.getD m false=true->¬D m->∃c,e=.inl c/\∀u G',Gx.le (Gx.of G) G'->ñ l.toArray o (Á (T.take m) []) u G'->ξ l.toArray (ς (Á (T.take m) []) u++(ef (T.take m) []++fr)) o true/\Y0 P N o (ς (Á (T.take m) []) u++(ef (T.take m) []++fr)) Bt c)->
      ∃u:Nat->Value,(∀t,(∀(j:Nat) (q:Oper×ft),j<m+1->T[j]?=some q->fl.getD j false=true->¬D j->q.1.dst≠some t)->u t=u0 t)/\
    ∀(j:Nat) (o:Oper) (e:ft),j<m+1->T[j]?=some (o,e)->fl.getD j false=true->¬D j->e.lP=none/\∃c,(∀t,o.dst=some t->e.val u t=c)/\∀G',Gx.le (Gx.of G) G'->ñ l.toArray o (Á (T.take j) []) u G'->ξ l.toArray (ς (Á (T.take j) []) u++(ef (T.take j) []++fr)) o true/\Y0 P N o (ς (Á (T.take j) []) u++(ef (T.take j) []++fr)) Bt c/\∀φ,e=.inr φ->φ.2 c G':=by
     intro aK;refine⟨u,λt K=>A t λj q g=>K j q ŉ,λj o e g ax J y=>?_⟩;rcases abn.1 g with g|rfl
     .exact h2 j o e g ax J y
     obtain⟨c,rfl,hc⟩:=aK o e ax J y;exact⟨rfl,c,λ_ _=>rfl,λG' g1 g2=>⟨(hc u G' g1 g2).1,(hc u G' g1 g2).2,λφ I=>by cases I⟩⟩
    by_cases bv:∃o e,T[m]?=some (o,e)/\fl.getD m false=true/\¬D m
    .obtain⟨o,e,aq,aV,bx⟩:=bv
     rcases t5 m o e aq aV with ⟨c,I,hc⟩|⟨φ,c,I,bu,hc⟩
     .exact bf λo' e' h _ _=>by rw[aq]at h;cases h;exact⟨c,I,hc⟩
     subst I
     obtain⟨d,aF,_⟩:=t3 _ (Ň aq) (none,φ) rfl
     simp only at aF
     obtain⟨am,bm⟩:=E m _ aq
     have bG:∀j,j<=m->∀p∈Á (T.take j) [],u p.1=(λt=>if t=d then c u else u t) p.1:=by
      intro j g p hp;have:p.1≠d:=by
       intro e;rcases Gj (T.take j) [] p hp with ⟨q,hq,_⟩|⟨i,q,hi,hq⟩
       .cases hq
       rw[Ŏ]at hi;split at hi
       .have:=aI i m q _ d hi aq (by rw[<-e];exact hq) aF;omega
       cases hi
      simp only[ā this]
     refine⟨λt=>if t=d then c u else u t,λt K=>?_,λj o' e' g ax J y=>?_⟩
     .have:t≠d:=λe=>K m _ (Ũ m) aq aV bx (by rw[e];exact aF)
      simp only[ā this]
      exact A t λj q g=>K j q ŉ
     rcases abn.1 g with g|rfl
     .obtain⟨g1,c',g2,g3⟩:=h2 j o' e' g ax J y
      refine⟨g1,c',λt K=>?_,λG' k1 k2=>?_⟩
      .rw[<-g2 t K]
       cases e' with
       |inl c=>rfl
       |inr aT=>
        have:t≠d:=λe=>by have:=aI j m _ _ d ax aq (by rw[<-e];exact K) aF;omega
        simp only[ft.val,ā this]
      rw[<-Ro (bG j ŉ)]
      exact g3 G' k1 (QJ (λp hp=>(bG j ŉ p hp).symm) k2)
     rw[aq]at ax
     cases ax
     have bR:c (λt=>if t=d then c u else u t)=c u:=(bu _ _ λt K=>by
      have:t≠d:=λe=>(xt aw ŉ aV bm bm).2 (Ċ _) aV d aF (by rw[<-e];exact K);simp only[ā this]).symm
     refine⟨rfl,c u,λt K=>?_,λG' k1 k2=>?_⟩
     .have:t=d:=by rw[aF]at K;simpa using K.symm
      simp only[ft.val,ą this]
     have:=hc _ G' k1 k2
     rw[bR]at this
     exact⟨this.1,this.2.1,λaT I=>by cases I;exact this.2.2⟩
    exact bf λo e A h2 h3=>absurd ⟨o,e,A,h2,h3⟩ bv
  obtain⟨u,bY,bF⟩:=bj T.length
  have aZ:∀(j:Nat) (q:Oper×ft),T[j]?=some q->j<T.length:=λj q g=>(ċ.1 g).1
  have aC:∀(j:Nat) (q:Oper×ft) (t:Nat),T[j]?=some q->q.1.dst=some t->D j->a.tmps[t]?=some (q.2.val u t)/\∀φ,q.2=.inr φ->(∀(i:Nat) (q':Oper×ft),T[i]?=some q'->D i->q'.2.lP≠some t)->φ.2 (u t) G':=by
   intro j q t g k hD;have bI:u t=u0 t:=bY t λj' q' _ ki _ bw oG=>bw (by rw[aI j' j q' q t ki g oG k];exact hD);have aS:q.2.val u t=q.2.val u0 t:=by
    cases q.2 with
    |inl c=>rfl
    |inr φ=>exact bI
   rw[aS,bI];exact(aY j q t g k).1 hD
  have bM:T.take T.length=T:=ĥ
  let F:Fr:=ς (Á T []) u++(ef T []++fr)
  have aG:∀t,((∀(j:Nat) (q:Oper×ft),T[j]?=some q->q.1.dst≠some t)->F.get t=fr.get t)/\(∀(j:Nat) (q:Oper×ft),T[j]?=some q->q.1.dst=some t->F.get t=some (q.2.val u t)):=by intro t;have h0:=H T.length u t;rw[bM]at h0;exact⟨λh=>h0.1 (λj q _ g=>h j q g),λj q g hd=>h0.2 j q (ċ.1 g).1 g hd⟩
  have av:∀(j:Nat) (q:Oper×ft),T[j]?=some q->¬fl.getD j false=true->D j:=λj q g J=>by obtain⟨a1,O⟩:=E j q g;exact aM j ŉ (ċ.1 O).1 (by simpa using J)
  have hF:∀t v,F.get t=some v->t<N:=by
   intro t v hv;by_cases C:∃(j:Nat) (q:Oper×ft),T[j]?=some q/\q.1.dst=some t
   .obtain⟨j,q,h2,h3⟩:=C;obtain⟨a1,O⟩:=E j q h2;exact(rj hS a1 O h3).1
   rw[(aG t).1 (λj q h2 h3=>C ⟨j,q,h2,h3⟩)]at hv;have:=ha.here t v hv;have:=(ĕ.1 this).1;have bB:=ha.size;omega
  have aN:∀(j:Nat) (o:Oper) (φ:ŀ Nat×(Value->Gx->Prop)) (t:Nat),T[j]?=some (o,.inr φ)->o.dst=some t->(∀(i:Nat) (q':Oper×ft),T[i]?=some q'->q'.2.lP≠some t)->φ.2 (u t) G':=by
   intro j;induction j using Nat.strongRecOn with
   |_ j ih=>
    intro o φ t g k aa;by_cases hD:D j
    .exact (aC j _ t g k hD).2 φ rfl λi q' h _=>aa i q' h
    have J:fl.getD j false=true:=Š λh=>hD (av j _ g h);obtain⟨aO,c,bP,bQ⟩:=bF j o _ (aZ j _ g) g J hD;obtain⟨a1,O⟩:=E j _ g;have:=(bQ G' aH (KP λp hp aJ=>by
     rcases xJ (T.take j) [] p hp with ⟨q,h,_⟩|h|⟨j',o',aT,A,h2,h3,_⟩
     .cases h
     .exact h _ _
     rw[Ŏ]at A;split at A
     .rename_i bU;rw[h3];refine ih j' bU o' aT p.1 A h2 λi' q' kB I=>?_;obtain⟨e1,e2,_⟩:=t6 i' q'.1 q'.2 p.1 kB I;have:=Mr e2 (E i' q' kB).2 O e1 (by simpa using aJ);subst this;rw[g]at kB;cases kB;rw[aO]at I;cases I
     cases A)).2.2 φ rfl
    have e:u t=c:=bP t k;rw[e];exact this
  have bH:kY (Á T []) u G':=ZxI λp hp=>by
   rcases xJ T [] p hp with ⟨q,h,_⟩|h|⟨j,o',φ,A,h2,h3,h4⟩
   .cases h
   .exact h _ _
   rw[h3];refine aN j o' φ p.1 A h2 λi' q' kB I=>?_
   .obtain⟨_,_,e3⟩:=t6 i' q'.1 q'.2 p.1 kB I;rcases e3 with ⟨p',h',_⟩|⟨j',b4,ki,bz,br⟩
    .cases h'
    have:j'=j:=aI j' j b4 _ p.1 bz A br h2;subst this;refine h4 i' q' ki kB ?_ I;cases bA:q'.2 with
    |inl c=>rw[bA]at I;simp[ft.lP]at I
    |inr aT=>obtain⟨d',oG,_⟩:=t3 q' (Ň kB) aT bA;rw[oG];rfl
  refine⟨u,fill F a,⟨G',aH,λj q t φ A h2 h3 h4=>aN j q.1 φ t (by rw[A];congr 1;exact abV rfl h3) h2 h4⟩,?_,rfl,W,by simp[fill,W],λt K=>?_,λj q t g J y k=>?_,λj q g J y t K v hv=>?_,λj q g J y=>?_⟩
  .have:=t4 u G' aH bH (fill F a) w (L3 hd W hF) aK
   rw[hn]
   exact this
  .rw[zr]
   cases hx:a.tmps[t]? with
   |none=>rfl
   |some x=>
    simp only[Ğ,Đ]
    cases J:F.get t with
    |none=>rfl
    |some v=>
     simp only[Ś]
     have key:a.tmps[t]?=some v:=by
      by_cases C:∃(j:Nat) (q:Oper×ft),T[j]?=some q/\q.1.dst=some t
      .obtain⟨j,q,h2,h3⟩:=C;have hv:=(aG t).2 j q h2 h3;rw[J]at hv;simp only[Đ]at hv;rw[hv];have hD:D j:=by
        apply Š;intro y;by_cases ac:fl.getD j false=true
        .exact K j q h2 ac y h3
        exact y (av j q h2 ac)
       exact(aC j q t h2 h3 hD).1
      have hb:=(aG t).1 (λj q h2 h3=>C ⟨j,q,h2,h3⟩);exact al t (λj q h2 h3=>C ⟨j,q,h2,h3⟩) v (by rw[<-hb];exact J)
     rw[hx]at key
     simpa using key
  .rw[zr]
   have aR:=(rj hS (E j _ g).1 (E j _ g).2 k).1
   rw[Ō (show t<a.tmps.size by rw[W];exact aR)]
   have hv:=(aG t).2 j _ g k
   simp only[Ğ,hv,Ś]
  .rw[zr]
   have bn:F.get t=some v:=by
    by_cases C:∃(i:Nat) (q':Oper×ft),i<j/\T[i]?=some q'/\q'.1.dst=some t
    .obtain⟨i,q',A,h2,h3⟩:=C;rw[(H j u t).2 i q' A h2 h3]at hv;rw[(aG t).2 i q' h2 h3];exact hv
    rw[(H j u t).1 (λi q' A h2 h3=>C ⟨i,q',A,h2,h3⟩)]at hv;rw[(aG t).1 (λi q' h2 h3=>?_)]
    .exact hv
    obtain⟨a1,O⟩:=E i q' h2;obtain⟨a2,b2⟩:=E j q g;have bi:j<=i:=by
     rcases ş i j with h|h
     .exact absurd ⟨i,q',h,h2,h3⟩ C
     exact h
    by_cases bh:fl.getD i false=true
    .exact (xt aw ŉ bh O b2).2 bi J t h3 K
    rcases ş j i with h|h
    .have bL:=av i q' h2 bh;have S:=(((rj hS a1 O h3).2 j q.1 a2 b2 ŉ).2 K).2 h;exact y (yT aE i q'.1 O (λe I hb=>aE i q'.1 (by simpa using O) bL e I hb) j S)
    have:i=j:=ŉ;subst this;exact bh J
   have aR:t<a.tmps.size:=by rw[W];exact hF t v bn
   rw[Ō aR]
   simp[bn]
  obtain⟨_,c,k1,k2⟩:=bF j q.1 q.2 (aZ j q g) g J y
  exact⟨c,k1,λG' g1 g2=>⟨(k2 G' g1 g2).1,(k2 G' g1 g2).2.1⟩⟩
 .-- bJ tail
  intro D a w m o aE nQ Y b8 hr hI
  obtain⟨u,af,hX,B,ay,W,ar,az,ao,V,aX⟩:=hI
  rw[hn]at nQ
  have aW:m<l.length:=(ċ.1 Y).1
  have bW:l[m]=o:=by rw[Ą aW]at Y;simpa using Y
  have S:=yT aE m o Y hr
  have aU:∀t,t∈o.looksAt l.toArray->af.tmps[t]?=a.tmps[t]?:=λt K=>(az t (λj q g J y k=>by
   obtain⟨a1,O⟩:=E j q g;exact y (S j (((xt aw ŉ J O Y).1 ŉ).2 t k K)))).symm
  have C:execOp af.eval o=execOp a.eval o:=KZ (λcs b=>ap m o cs b (by simpa using Y)) aU
  have aB:Region.wanted o (yielded l.toArray af.tmps)=Region.wanted o (yielded l.toArray a.tmps):=JZ aU
  rw[į aW,bW]at B
  unfold gD at B
  replace B:=B.2
  have Z:∀v w' ds,gD P l.toArray Bt (NX Q) (l.drop (m+1)) (({ af with defers:=ds }:Act).put o.dst v) w'->aL (λj=>D j\/j=m) (m+1) (({ a with defers:=ds }:Act).put o.dst v) w':=by
   intro v w' ds lx;have U:∀(x:Act) t,o.dst≠some t->(x.put o.dst v).tmps[t]?=x.tmps[t]?:=λx t aa=>by
    cases lD:o.dst with
    |none=>rfl
    |some s=>
     simp only[Act.put];rw[Ŗ (λe=>aa (by rw[lD,e]))]
   refine⟨u,_,hX,lx,by cases o.dst<;>rfl,by cases o.dst<;>simpa[Act.put]using W,by cases o.dst<;>simpa[Act.put]using ar,λt K=>?_,λj q t g J y k=>?_,λj q g J y t K v' mf=>?_,λj q g J y=>aX j q g J (λh=>y (.inl h))⟩
   .by_cases k:o.dst=some t
    .rw[k];simp only[Act.put,ť,W,ar,if_true]
    rw[U _ t k,U _ t k];exact az t (λj q g J y hd=>by
     have:=(E j q g).1;exact K j q g J (λh=>h.elim y (λe=>ŉ)) hd)
   .obtain⟨a1,O⟩:=E j _ g;have aa:o.dst≠some t:=λe=>(((xt aw ŉ J O Y).1 ŉ).1 t (λki=>y (.inl (S j ki))) e).2 k;rw[U _ t aa];exact ao j q t g J (λh=>y (.inl h)) k
   obtain⟨a1,O⟩:=E j _ g;have aa:o.dst≠some t:=λe=>(((xt aw ŉ J O Y).1 ŉ).1 t (λki=>y (.inl (S j ki))) e).1 K;rw[U _ t aa];exact V j q g J (λh=>y (.inl h)) t K v' mf
  have bN:({ af with defers:=a.defers }:Act)=af:=by rw[ay]
  have plain:∀v w',gD P l.toArray Bt (NX Q) (l.drop (m+1)) (af.put o.dst v) w'->aL (λj=>D j\/j=m) (m+1) (a.put o.dst v) w':=λv w' h=>Z v w' a.defers (by rw[bN];exact h)
  unfold wpOp
  have aQ:l.toArray[m]?=some o:=by simpa using Y
  simp only[aQ]
  by_cases lx:Region.wanted o (yielded l.toArray a.tmps)=true
  .rw[ą lx]
   rw[ą (by rw[aB];exact lx)]at B
   refine .inl ?_
   unfold Oper.wp at B⊢
   rw[C]at B
   generalize (execOp a.eval o).run P w=r at B⊢
   cases r with
   |ok x w'=>
    cases x<;>simp only[Oper.upon]at B⊢
    case value v=>exact plain v w' B
    case skip=>exact plain undef w' B
    case defer d=>exact Z undef w' (d::a.defers) (by rw[ay];exact B)
    case enter f args=>
     refine aa1 B λe bk I=>?_
     cases e with
     |returned v=>exact plain v bk I
     |panicked c=>exact I.elim
     |outgrown=>obtain⟨_,_,h⟩:=I;exact h.elim
    case row row args=>exact Rows.mono B λv bk I=>plain v bk I
   |halt x w'=>cases x<;>simp only[Oper.upon]at B⊢;exact B.elim
  rw[ā lx]
  rw[ā (by rw[aB];exact lx)]at B
  exact plain undef w B
 .-- one b7 bK
  intro D a w m i o aE hi nQ J Y aA hr hI
  obtain⟨u,af,hX,B,ay,W,ar,az,ao,V,aX⟩:=hI
  rw[hn]at hi nQ
  obtain⟨e,ab⟩:=bt i o hi Y
  have aO:e.lP=none:=by
   rcases t5 i o e ab J with ⟨c,rfl,_⟩|⟨φ,c,rfl,_⟩<;>rfl
  obtain⟨c,bq,bp⟩:=aX i (o,e) ab J aA
  simp only at bq bp
  obtain⟨GX,bb,bo⟩:=hX
  have hY:=bp GX bb (KP λp hp aJ=>by
   rcases xJ (T.take i) [] p hp with ⟨q,h,_⟩|h|⟨j,o',φ,A,h2,h3,_⟩
   .cases h
   .exact h _ _
   rw[Ŏ]at A;split at A
   .rw[h3];refine bo j _ p.1 φ A h2 rfl λi' q' kB I=>?_;obtain⟨e1,e2,_⟩:=t6 i' q'.1 q'.2 p.1 kB I;have:=Mr e2 (E i' q' kB).2 Y e1 (by simpa using aJ);subst this;rw[ab]at kB;cases kB;rw[aO]at I;cases I
   cases A)
  have S:=yT aE i o Y hr
  let F:Fr:=ς (Á (T.take i) []) u++(ef (T.take i) []++fr)
  have hF:∀t v,F.get t=some v->t<N:=by
   intro t v hv;by_cases C:∃(j:Nat) (q:Oper×ft),j<i/\T[j]?=some q/\q.1.dst=some t
   .obtain⟨j,q,A,h2,h3⟩:=C;obtain⟨a1,O⟩:=E j q h2;exact(rj hS a1 O h3).1
   have:=(H i u t).1 (λj q A h2 h3=>C ⟨j,q,A,h2,h3⟩);have mf:fr.get t=some v:=by rw[<-this];exact hv
   have:=ha.here t v mf;have:=(ĕ.1 this).1;have bB:=ha.size;omega
  have aU:∀t,t∈o.looksAt l.toArray->af.tmps[t]?=a.tmps[t]?:=λt K=>(az t (λj q g ac y k=>by
   obtain⟨a1,O⟩:=E j q g;rcases aay j i with h|h|h
   .exact y (S j ((((rj hS a1 O k).2 i o hi Y ŉ).2 K).1 h))
   .subst h;rw[ab]at g;cases g;exact(xt aw ŉ J Y Y).2 (Ċ _) J t k K
   exact(xt aw ŉ ac O Y).2 ŉ J t k K)).symm
  have aP:∀t,t∈o.looksAt l.toArray->(fill F a).tmps[t]?=a.tmps[t]?:=by
   intro t K;rw[zr];cases hx:a.tmps[t]? with
   |none=>rfl
   |some x=>
    simp only[Ğ,Đ];cases bT:F.get t with
    |none=>rfl
    |some v=>
     have A:=V i (o,e) ab J aA t K v bT;rw[aU t K,hx]at A;simpa using A.symm
  have ai:Rel N F (fill F { a with defers:=[] }):=L3 rfl W hF
  have C:execOp (fill F { a with defers:=[] }).eval o=execOp a.eval o:=KZ (ops:=l.toArray) (λcs b=>ap i o cs b (by simpa using Y)) aP
  have aB:Region.wanted o (yielded l.toArray (fill F { a with defers:=[] }).tmps)=Region.wanted o (yielded l.toArray a.tmps):=JZ (a:=fill F { a with defers:=[] }) aP
  unfold wpOp
  have aQ:l.toArray[i]?=some o:=by simpa using Y
  simp only[aQ]
  rw[ą (by rw[<-aB,ai.wanted hY.1])]
  refine .inl ?_
  have bO:Bt w:=by
   generalize l.drop m=r at B;cases r with
   |nil=>exact B.1
   |cons o' r=>exact B.1
  have be:=hY.2 (fill F { a with defers:=[] }) w ai bO
  rw[C]at be
  simp only[Oper.wp,be,Oper.upon]
  refine⟨u,af,⟨GX,bb,bo⟩,B,by cases o.dst<;>exact ay,by cases o.dst<;>simpa[Act.put]using W,ar,λt K=>?_,λj q t g ac y k=>?_,λj q g ac y t K v' mf=>?_,λj q g ac y=>aX j q g ac (λh=>y (.inl h))⟩
  .by_cases k:o.dst=some t
   .have aR:=(rj hS hi Y k).1
    rw[k]
    simp only[Act.put]
    rw[Ų ŉ]
    have h0:=ao i (o,e) t ab J aA k
    rw[bq t k]at h0
    exact h0.symm
   have U:(a.put o.dst c).tmps[t]?=a.tmps[t]?:=by
    cases lD:o.dst with
    |none=>rfl
    |some s=>
     simp only[Act.put];rw[Ŗ (λe=>k (by rw[lD,e]))]
   rw[U]
   refine az t (λj q g ac y hd=>?_)
   by_cases an:j=i
   .subst an
    rw[ab]at g
    cases g
    exact k hd
   exact K j q g ac (λh=>h.elim y an) hd
  .exact ao j q t g ac (λh=>y (.inl h)) k
  exact V j q g ac (λh=>y (.inl h)) t K v' mf
 -- bJ end
 intro D a w m aM aW hI
 obtain⟨u,af,_,B,ay,W,ar,az,_,_,_⟩:=hI
 rw[Ĺ aW]at B
 replace B:=B.2
 have bE:a.tmps=af.tmps:=by apply aao;intro t;exact az t (λj q g _ y=>absurd (aM j (ċ.1 (E j q g).2).1) y)
 have:a=af:=by cases a;cases af;simp only at bE ay;subst bE;subst ay;rfl
 rw[this]
 exact B
theorem WC.sm{id:Nat}{Bt:Ξ}{l0:Ŀ Oper}(e:∀a w,wpAny P .any l.toArray Q l.toArray.size (Array.replicate l.toArray.size false) a { w with drawn:=w.drawn+1 }->(Code.region id l0.toArray true).wp P Q a w)(c:Mem.le G0 G->∀(X:Gx) w,Gx.le (Gx.of G) X->gr w0 G0 X L w->Bt w)(fl:Ŀ Bool)(d:jh N l fl=true)(h:Mem.le G0 G->γ P N Q fr w0 G0 G L l.toArray Bt fl l [] []):
  WC P N (.region id l0.toArray true) Q fr (St w0 G0 G L):=nm e c fl d h
theorem WC.sn{id:Nat}{Bt:Ξ}(a:Mem.le G0 G->∀(X:Gx) w,Gx.le (Gx.of G) X->gr w0 G0 X L w->Bt w)(fl:Ŀ Bool)(d:P.follows .mixedOrders=true)(c:jh N l fl=true)(h:Mem.le G0 G->γ P N Q fr w0 G0 G L l.toArray Bt fl l [] []):
  WC P N (.region id l.toArray true) Q fr (St w0 G0 G L):=WC.sm (λ_ _ k=>wp_region_any d k) a fl c h
theorem WC.drawn{id:Nat}(fl:Ŀ Bool)(c:P.follows .mixedOrders=true)(a:jh N l fl=true)(h:Mem.le G0 G->γ P N Q fr w0 G0 G L l.toArray (λ_=>True) fl l [] []):
  WC P N (.region id l.toArray true) Q fr (St w0 G0 G L):=WC.sn (λ_ _ _ _ _=>trivial) fl c a h
end
def uZ:TypeDesc->Bool
 |.struct _|.array _ _=>false
 |_=>true
def è(P:Program)(t:TypeId):Prop:=(P.underlying t).map uZ=some true
def fq(P:Program)(t:TypeId)(n:Nat):Prop:=(P.underlying t).map uZ=some false/\(P.info? t).map (·.size)=some n
theorem è.run{P:Program}{t:TypeId}(h:è P t)(w:World):(isAgg t).run P w=.ok false w:=by
 unfold è at h;cases a:P.underlying t with
 |none=>rw[a]at h;cases h
 |some d=>rw[a]at h;cases d<;>simp_all [isAgg,ē a,uZ]
theorem fq.run{P:Program}{t:TypeId}{n:Nat}(h:fq P t n)(w:World):(isAgg t).run P w=.ok true w:=by
 have h:=h.1;cases a:P.underlying t with
 |none=>rw[a]at h;cases h
 |some d=>rw[a]at h;cases d<;>simp_all [isAgg,ē a,uZ]
theorem run_sizeOf{P:Program}{t:TypeId}{n:Nat}(h:(P.info? t).map (·.size)=some n)(w:World):(sizeOf t).run P w=.ok n w:=by
 cases a:P.info? t with
 |none=>simp[a]at h
 |some i=>simp[a]at h;simp[sizeOf,typeInfo,a,h]
section
variable {P:Program}{N:Nat}{fr:Fr}{S:Ξ}{dst:ŀ Nat}{ty:TypeId}{pos:String}{af:Array Edge}{g:ŀ (Nat×Bool)}
theorem Y0.move{x:Operand}{v:Value}(d:fr.ev x=some v):Y0 P N ⟨dst,.move x,ty,pos,af,g⟩ fr S v:=λa w c _=>by simp[execOp,c.ev d]
theorem Y0.assign{x:Operand}{v:Value}(d:fr.ev x=some v):Y0 P N ⟨dst,.assign x,ty,pos,af,g⟩ fr S v:=λa w c _=>by simp[execOp,c.ev d]
theorem Y0.om{c x y:Operand}{v:Value}(e:fr.ev c=some (.bool true))(f:fr.ev x=some v):Y0 P N ⟨dst,.pick c x y,ty,pos,af,g⟩ fr S v:=λa w d _=>by simp[execOp,d.ev e,d.ev f,asBool]
theorem Y0.eU{c x y:Operand}{v:Value}(e:fr.ev c=some (.bool false))(f:fr.ev y=some v):Y0 P N ⟨dst,.pick c x y,ty,pos,af,g⟩ fr S v:=λa w d _=>by simp[execOp,d.ev e,d.ev f,asBool]
theorem Y0.bin{op:BinOp}{t yt:TypeId}{x y:Operand}{c d v:Value}(i:fr.ev x=some c)(j:fr.ev y=some d)(f:∀w,(eqGuard op t x y c d).run P w=.ok () w)(h:∀w,(binOp op t c d).run P w=.ok v w):
  Y0 P N ⟨dst,.binOp op t x y yt,ty,pos,af,g⟩ fr S v:=λa w e _=>by
 simp[execOp,e.ev i,e.ev j,f w,h w]
theorem Z8(op:BinOp)(t:TypeId)(x y:Operand)(k k':IntKind)(a b:Int)(w:World):(eqGuard op t x y (.int k a) (.int k' b)).run P w=.ok () w:=by cases op<;>simp[eqGuard]
theorem Sm(op:BinOp)(t:TypeId)(x y:Operand)(a b:Bool)(w:World):(eqGuard op t x y (.bool a) (.bool b)).run P w=.ok () w:=by cases op<;>simp[eqGuard]
theorem ET(op:BinOp)(t:TypeId)(x y:Operand)(a b:Ĳ)(w:World):(eqGuard op t x y (.string a) (.string b)).run P w=.ok () w:=by cases op<;>simp[eqGuard]
section
variable {t yt:TypeId}{x y:Operand}{k:IntKind}{a b:Int}
theorem Y0.add(c:fr.ev x=some (.int k a))(d:fr.ev y=some (.int k b)):Y0 P N ⟨dst,.binOp .add t x y yt,ty,pos,af,g⟩ fr S (.int k (k.wrap (a+b))):=
 Y0.bin c d (Z8 _ _ _ _ _ _ _ _) λw=>by simp[binOp,Op.intArith]
theorem Y0.sub(c:fr.ev x=some (.int k a))(d:fr.ev y=some (.int k b)):Y0 P N ⟨dst,.binOp .sub t x y yt,ty,pos,af,g⟩ fr S (.int k (k.wrap (a-b))):=
 Y0.bin c d (Z8 _ _ _ _ _ _ _ _) λw=>by simp[binOp,Op.intArith]
theorem Y0.mul(c:fr.ev x=some (.int k a))(d:fr.ev y=some (.int k b)):Y0 P N ⟨dst,.binOp .mul t x y yt,ty,pos,af,g⟩ fr S (.int k (k.wrap (a*b))):=
 Y0.bin c d (Z8 _ _ _ _ _ _ _ _) λw=>by simp[binOp,Op.intArith]
theorem Y0.lss(c:fr.ev x=some (.int k a))(d:fr.ev y=some (.int k b)):Y0 P N ⟨dst,.binOp .lss t x y yt,ty,pos,af,g⟩ fr S (.bool (decide (a<b))):=
 Y0.bin c d (Z8 _ _ _ _ _ _ _ _) λw=>by simp[binOp,Op.intCmp]
theorem Y0.leq(c:fr.ev x=some (.int k a))(d:fr.ev y=some (.int k b)):Y0 P N ⟨dst,.binOp .leq t x y yt,ty,pos,af,g⟩ fr S (.bool (decide (a<=b))):=
 Y0.bin c d (Z8 _ _ _ _ _ _ _ _) λw=>by simp[binOp,Op.intCmp]
theorem Y0.gtr(c:fr.ev x=some (.int k a))(d:fr.ev y=some (.int k b)):Y0 P N ⟨dst,.binOp .gtr t x y yt,ty,pos,af,g⟩ fr S (.bool (decide (b<a))):=
 Y0.bin c d (Z8 _ _ _ _ _ _ _ _) λw=>by simp[binOp,Op.intCmp]
theorem Y0.geq(c:fr.ev x=some (.int k a))(d:fr.ev y=some (.int k b)):Y0 P N ⟨dst,.binOp .geq t x y yt,ty,pos,af,g⟩ fr S (.bool (decide (b<=a))):=
 Y0.bin c d (Z8 _ _ _ _ _ _ _ _) λw=>by simp[binOp,Op.intCmp]
theorem Zz1(a b:Int):(a == b)=decide (a=b):=by by_cases h:a=b<;>simp[h]
theorem Y0.eql(c:fr.ev x=some (.int k a))(d:fr.ev y=some (.int k b)):Y0 P N ⟨dst,.binOp .eql t x y yt,ty,pos,af,g⟩ fr S (.bool (decide (a=b))):=
 Y0.bin c d (Z8 _ _ _ _ _ _ _ _) λw=>by rw[<-Zz1];simp[binOp,Op.intCmp]
theorem Y0.neq(c:fr.ev x=some (.int k a))(d:fr.ev y=some (.int k b)):Y0 P N ⟨dst,.binOp .neq t x y yt,ty,pos,af,g⟩ fr S (.bool (decide (¬a=b))):=
 Y0.bin c d (Z8 _ _ _ _ _ _ _ _) λw=>by
  have:(a != b)=decide (¬a=b):=by by_cases h:a=b<;>simp[h]
  rw[<-this];simp[binOp,Op.intCmp]
theorem Y0.quo(d:fr.ev x=some (.int k a))(e:fr.ev y=some (.int k b))(c:b≠0):Y0 P N ⟨dst,.binOp .quo t x y yt,ty,pos,af,g⟩ fr S (.int k (k.wrap (a.tdiv b))):=
 Y0.bin d e (Z8 _ _ _ _ _ _ _ _) λw=>by simp[binOp,Op.intDiv,c]
theorem Y0.rem(d:fr.ev x=some (.int k a))(e:fr.ev y=some (.int k b))(c:b≠0):Y0 P N ⟨dst,.binOp .rem t x y yt,ty,pos,af,g⟩ fr S (.int k (a.tmod b)):=
 Y0.bin d e (Z8 _ _ _ _ _ _ _ _) λw=>by simp[binOp,Op.intDiv,c]
theorem Y0.shl{k':IntKind}(c:fr.ev x=some (.int k a))(d:fr.ev y=some (.int k' b))(e:0<=b):Y0 P N ⟨dst,.binOp .shl t x y yt,ty,pos,af,g⟩ fr S (.int k (k.wrap (a*2 ^ (min b.toNat k.bits)))):=
 Y0.bin c d (Z8 _ _ _ _ _ _ _ _) λw=>by have:¬b<0:=ŉ;simp[binOp,Op.shift,this]
theorem Y0.shr{k':IntKind}(c:fr.ev x=some (.int k a))(d:fr.ev y=some (.int k' b))(e:0<=b):Y0 P N ⟨dst,.binOp .shr t x y yt,ty,pos,af,g⟩ fr S (.int k (a.fdiv (2 ^ (min b.toNat k.bits)))):=
 Y0.bin c d (Z8 _ _ _ _ _ _ _ _) λw=>by have:¬b<0:=ŉ;simp[binOp,Op.shift,this]
theorem Y0.or(c:fr.ev x=some (.int k a))(d:fr.ev y=some (.int k b)):Y0 P N ⟨dst,.binOp .or t x y yt,ty,pos,af,g⟩ fr S (.int k (k.wrap (BitVec.ofInt k.bits a ||| BitVec.ofInt k.bits b).toNat)):=
 Y0.bin c d (Z8 _ _ _ _ _ _ _ _) λw=>by simp[binOp,Op.intBits]
theorem Y0.and(c:fr.ev x=some (.int k a))(d:fr.ev y=some (.int k b)):Y0 P N ⟨dst,.binOp .and t x y yt,ty,pos,af,g⟩ fr S (.int k (k.wrap (BitVec.ofInt k.bits a &&& BitVec.ofInt k.bits b).toNat)):=
 Y0.bin c d (Z8 _ _ _ _ _ _ _ _) λw=>by simp[binOp,Op.intBits]
theorem Y0.eq{o:Oper}{v a:Value}(h:Y0 P N o fr S v)(e:v=a):Y0 P N o fr S a:=e ▸ h
end
theorem run_equal_bool{t:TypeId}(c:P.underlying t=some .bool)(a b:Bool)(w:World):(Op.equal t (.bool a) (.bool b)).run P w=.ok (a == b) w:=by
 have h:∀d,(Op.equalIn (d+1) t (.bool a) (.bool b)).run P w=.ok (a == b) w:=λd=>by simp[Op.equalIn,ē c]
 exact h 9999
theorem Y0.Ca{t yt:TypeId}{x y:Operand}{a b:Bool}(c:P.underlying t=some .bool)(d:fr.ev x=some (.bool a))(e:fr.ev y=some (.bool b)):Y0 P N ⟨dst,.binOp .eql t x y yt,ty,pos,af,g⟩ fr S (.bool (decide (a=b))):=
 Y0.bin d e (Sm _ _ _ _ _ _) λw=>by simp[binOp,run_equal_bool c];cases a<;>cases b<;>rfl
theorem Y0.Ox{t yt:TypeId}{x y:Operand}{a b:Bool}(c:P.underlying t=some .bool)(d:fr.ev x=some (.bool a))(e:fr.ev y=some (.bool b)):Y0 P N ⟨dst,.binOp .neq t x y yt,ty,pos,af,g⟩ fr S (.bool (decide (¬a=b))):=
 Y0.bin d e (Sm _ _ _ _ _ _) λw=>by simp[binOp,run_equal_bool c];cases a<;>cases b<;>rfl
theorem Y0.not{t:TypeId}{x:Operand}{b:Bool}(d:fr.ev x=some (.bool b)):Y0 P N ⟨dst,.unOp .not t x,ty,pos,af,g⟩ fr S (.bool (!b)):=λa w c _=>by simp[execOp,c.ev d,Op.unary]
theorem Y0.neg{t:TypeId}{x:Operand}{k:IntKind}{n:Int}(d:fr.ev x=some (.int k n)):Y0 P N ⟨dst,.unOp .neg t x,ty,pos,af,g⟩ fr S (.int k (k.wrap (0-n))):=λa w c _=>by simp[execOp,c.ev d,Op.unary,Op.intArith]
theorem Y0.conv{s d:TypeId}{x:Operand}{c:TypeDesc}{k k':IntKind}{n:Int}(h:P.underlying s=some c)(f:P.underlying d=some (.int k'))(i:fr.ev x=some (.int k n)):Y0 P N ⟨dst,.convert s d x,ty,pos,af,g⟩ fr S (.int k' (k'.wrap n)):=λa w e _=>by simp[execOp,e.ev i,convert,ē h,ē f,Conv.intToInt]
theorem Y0.extract{x:Operand}{i:Nat}{vs:Array Value}{v:Value}(e:fr.ev x=some (.tuple vs))(d:vs[i]?=some v):Y0 P N ⟨dst,.extract x i,ty,pos,af,g⟩ fr S v:=λa w c _=>by simp[execOp,c.ev e,Instr.extract,d]
theorem Ek{t:TypeId}{cs:Array Value}{off:Nat}{v:Value}(a:è P t)(c:cs[off]?=some v)(w:World):(part t cs off).run P w=.ok v w:=by simp[part,a.run,c]
theorem QQ{t:TypeId}{cs:Array Value}{off n:Nat}(a:fq P t n)(w:World):(part t cs off).run P w=.ok (.agg (cs.extract off (off+n))) w:=by simp[part,a.run,run_sizeOf a.2]
theorem Y0.index{t e:TypeId}{x y:Operand}{len:Nat}{cs:Array Value}{k:IntKind}{i:Int}{v:Value}(j:P.underlying t=some (.array len e))(h:è P e)(c:(P.info? e).map (·.size)=some 1)
  (l:fr.ev x=some (.agg cs)) (m:fr.ev y=some (.int k i)) (hi:0<=i/\i<len) (f:cs[i.toNat]?=some v):Y0 P N ⟨dst,.index t x y,ty,pos,af,g⟩ fr S v:=λa w d _=>by
 have mf:cs[i.toNat*1]?=some v:=by simpa using f
 simp[execOp,d.ev l,d.ev m,Instr.index,asIntOf,ē j,hi,run_sizeOf c,Ek h f]
theorem Y0.field{s:TypeId}{x:Operand}{f:Nat}{fs:Array Field}{c:Field}{cs:Array Value}{v:Value}(i:P.underlying s=some (.struct fs))(h:fs[f]?=some c)(e:è P c.type)
  (k:fr.ev x=some (.agg cs)) (j:cs[c.offset]?=some v):Y0 P N ⟨dst,.field s x f,ty,pos,af,g⟩ fr S v:=λa w d _=>by
 simp[execOp,d.ev k,Instr.field,ē i,h,asAgg,Ek e j]
theorem oy(b off n:Nat):(⟨b,off,none⟩:Addr).add n=⟨b,off+n,none⟩:=by
 unfold Addr.add;split
 .rename_i h;subst h;rfl
 rfl
theorem Y0.nu{t e:TypeId}{x y:Operand}{len b off sz:Nat}{k:IntKind}{i:Int}(f:P.underlying t=some (.array len e))(c:(P.info? e).map (·.size)=some sz)
  (h:fr.ev x=some (.pointer (some ⟨b,off,none⟩))) (j:fr.ev y=some (.int k i)) (hi:0<=i/\i<len):Y0 P N ⟨dst,.indexAddr t x y,ty,pos,af,g⟩ fr S (.pointer (some ⟨b,off+i.toNat*sz,none⟩)):=λa w d _=>by
 simp[execOp,d.ev h,d.ev j,Instr.indexAt,asIntOf,ē f,hi,run_sizeOf c,Instr.sureAddr,oy]
theorem Y0.sD{t e:TypeId}{x y:Operand}{len cap b off sz:Nat}{k:IntKind}{i:Int}(f:P.underlying t=some (.slice e))(c:(P.info? e).map (·.size)=some sz)
  (h:fr.ev x=some (.slice (some ⟨b,off,none⟩) len cap)) (j:fr.ev y=some (.int k i)) (hi:0<=i/\i<len):Y0 P N ⟨dst,.indexAddr t x y,ty,pos,af,g⟩ fr S (.pointer (some ⟨b,off+i.toNat*sz,none⟩)):=λa w d _=>by
 simp[execOp,d.ev h,d.ev j,Instr.indexAt,asIntOf,ē f,hi,run_sizeOf c,oy]
theorem Y0.fieldAddr{s:TypeId}{x:Operand}{f b off:Nat}{fs:Array Field}{c:Field}(h:P.underlying s=some (.struct fs))(e:fs[f]?=some c)(hp:∀w,(fieldPlace ⟨b,off,none⟩ c).run P w=.ok ⟨b,off+c.offset,none⟩ w)
  (i:fr.ev x=some (.pointer (some ⟨b,off,none⟩))):Y0 P N ⟨dst,.fieldAddr s x f,ty,pos,af,g⟩ fr S (.pointer (some ⟨b,off+c.offset,none⟩)):=λa w d _=>by
 simp[execOp,d.ev i,Instr.fieldAt,ē h,e,Instr.sureAddr,hp w]
theorem Y0.build{t:TypeId}{parts:Array (Nat×Operand)}{vs:Array (Nat×Value)}{v:Value}(c:fr.iy (parts.toList.map (·.2))=some (vs.toList.map (·.2)))(d:parts.toList.map (·.1)=vs.toList.map (·.1))
  (h:∀w,(Instr.build t vs).run P w=.ok v w):Y0 P N ⟨dst,.build t parts,ty,pos,af,g⟩ fr S v:=λa w l _=>by
 have f:=l.iy _ _ c
 have h2:(parts.map λp=>(p.1,a.eval p.2))=vs:=by
  apply ź;simp only[aaJ];have j:parts.toList.length=vs.toList.length:=by have:=Ē List.length d;simpa using this
  generalize parts.toList=ps at *;generalize vs.toList=e at *;induction ps generalizing e with
  |nil=>cases e<;>simp_all
  |cons p ps m=>
   cases e with
   |nil=>simp at j
   |cons q e=>
    simp only[ġ,Œ]at d f⊢;refine⟨abV d.1 f.1,?_⟩;simp only[Fr.iy,ġ]at c;split at c
    .rename_i s n r k;simp only[Đ,Œ]at c;exact m e (by rw[k,c.2]) d.2 f.2 (by simpa using j)
    cases c
 have h3:(parts.map λ(i,x)=>(i,a.eval x))=vs:=h2
 simp only[execOp,h3]
 simp[h w]
theorem Y0.makeFunc{fn:Fn}{first c:Array Operand}{d e:Ŀ Value}(j:fr.iy first.toList=some d)(h2:fr.iy c.toList=some e):Y0 P N ⟨dst,.makeFunc fn first c,ty,pos,af,g⟩ fr S (.func fn d.toArray e.toArray):=λa w f _=>by
 have h:first.map a.eval=d.toArray:=by apply ź;simpa using f.iy _ _ j
 have i:c.map a.eval=e.toArray:=by apply ź;simpa using f.iy _ _ h2
 simp[execOp,h,i,Instr.makeFunc]
theorem Y0.sF{x:Operand}{t e:TypeId}{p:ŀ Addr}{n cap:Nat}(d:P.underlying t=some (.slice e))(f:fr.ev x=some (.slice p n cap)):Y0 P N ⟨dst,.call ⟨.builtin .len,#[x],#[t]⟩,ty,pos,af,g⟩ fr S (.int .i64 (n:Int)):=λa w c _=>by simp[execOp,resolve,invoke,builtin,c.ev f,Builtin.len_,ē d,goInt]
theorem Y0.max2{x y:Operand}{f:Array TypeId}{k k':IntKind}{a b:Int}(d:fr.ev x=some (.int k a))(e:fr.ev y=some (.int k' b)):Y0 P N ⟨dst,.call ⟨.builtin .max,#[x,y],f⟩,ty,pos,af,g⟩ fr S (.int k (if a<b then b else a)):=λA w c _=>by simp[execOp,resolve,invoke,builtin,c.ev d,c.ev e,Builtin.max_,Builtin.max2]
theorem Y0.min2{x y:Operand}{f:Array TypeId}{k k':IntKind}{a b:Int}(d:fr.ev x=some (.int k a))(e:fr.ev y=some (.int k' b)):Y0 P N ⟨dst,.call ⟨.builtin .min,#[x,y],f⟩,ty,pos,af,g⟩ fr S (.int k (if b<a then b else a)):=λA w c _=>by simp[execOp,resolve,invoke,builtin,c.ev d,c.ev e,Builtin.min_,Builtin.min2]
end
end Go.EL

namespace Go.EL
open Go.IntKind (i8 i16 i32 i64 u8 u16 u32 u64)
open Go Go.RowKit Go.Proofs
section
variable {w0:Bs}{G0 G:Mem}{L:Lo}{w w':World}
theorem St.rJ{i m':Nat}{x:Ow}{o':Obj}(h:St w0 G0 G L w)(hi:L.get i=some x)(D:w'.heap[x.b]?=some o')(F:x.m<=m')(E:∀k v,k<x.m->G x.b k=some v->w'.cell? ⟨x.b,k,none⟩=some v)(t:∀k,k≠x.b->w'.heap[k]?=w.heap[k]?)
  (B:w'.os=w.os) (h2:w'.tape=w.tape) (h3:w'.output=w.output) (C:w'.drawn=w.drawn) (N:w'.heap.size=w.heap.size):St w0 G0 G ((i,some ⟨x.b,o',m'⟩)::L) w':=by
 obtain⟨O,p,A⟩:=h.loc i x hi
 refine⟨B.trans h.os,h2.trans h.tape,h3.trans h.output,by rw[C];exact h.drawn,by have:=h.size;omega,λk iu u=>?_,h.base,λb' d v q=>?_,h.fresh,λj y m=>?_,λj k y z f g l=>?_⟩
 .rw[t k (λe=>?_)]
  .exact h.block k iu u
  subst e
  rcases p with ⟨y,p,H⟩|p
  .exact u i y p H
  omega
 .by_cases f:b'=x.b
  .subst f
   refine E d v ?_ q
   rcases ş d x.m with s|r
   .exact s
   rw[A d r]at q;cases q
  rw[World.cell?_of_block (w:=w) (a:=⟨b',d,none⟩) (t b' f)]
  exact h.jj b' d v q
 .rw[Lo.Zp]at m
  split at m
  .rename_i c
   subst c
   simp only[Đ]at m
   subst m
   exact⟨D,p,λk iu=>A k (ŋ F iu)⟩
  rename_i c
  obtain⟨I,J,K⟩:=h.loc j y m
  exact⟨by rw[t y.b (λe=>h.Ú i j x y c hi m e.symm)];exact I,J,K⟩
 rw[Lo.Zp]at g l
 split at g<;>split at l
 .omega
 .rename_i c n
  simp only[Đ]at g
  subst g
  exact h.Ú i k x z n hi l
 .rename_i c n
  simp only[Đ]at l
  subst l
  exact h.Ú j i y x (λe=>c e.symm) g hi
 exact h.Ú j k _ _ f g l
theorem St.push(i:Nat)(o:Obj)(h:St w0 G0 G L w):St w0 G0 G ((i,some ⟨w.heap.size,o,0⟩)::L) (w.alloc o):=by
 have p:=h.size;have lt:∀j y,L.get j=some y->y.b<w.heap.size:=λj y c=>(ĕ.1 (h.loc j y c).1).1;refine⟨h.os,h.tape,h.output,h.drawn,ab0,λk g n=>?_,h.base,λb' f v m=>?_,h.fresh,λj y c=>?_,λj k y z l d e=>?_⟩
 .rw[Below.heap_alloc w o k ŉ];exact h.block k g n
 .have:=h.jj.lt m;rw[World.cell?_alloc_lt (w:=w) (o:=o) (a:=⟨b',f,none⟩) this];exact h.jj b' f v m
 .rw[Lo.Zp]at c;split at c
  .simp only[Đ]at c;subst c;refine⟨heap_alloc_new w o,.inr p,λk _=>?_⟩;cases g:G w.heap.size k with
   |none=>rfl
   |some v=>have:=h.jj.lt g;omega
  obtain⟨q,r,s⟩:=h.loc j y c;exact⟨by rw[Below.heap_alloc w o y.b (lt j y c)];exact q,r,s⟩
 rw[Lo.Zp]at d e;split at d<;>split at e
 .omega
 .simp only[Đ]at d;subst d;have:=lt _ _ e;dsimp only;omega
 .simp only[Đ]at e;subst e;have:=lt _ _ d;dsimp only;omega
 exact h.Ú j k _ _ l d e
def Mem.row(G:Mem)(b:Nat)(c:Array Value)(m n:Nat):Mem:=λb' o=>if b'=b/\m<=o/\o<n then c[o]? else G b' o
theorem Mem.VA{b m:Nat}{c:Array Value}{n:Nat}(h:∀k,m<=k->G b k=none):Mem.le G (Mem.row G b c m n):=λb' o v a=>by unfold Mem.row;rw[ā (λe=>by obtain⟨d,f,_⟩:=e;subst d;rw[h _ f]at a;cases a)];exact a
theorem Mem.zy{b o m:Nat}{c:Array Value}{n:Nat}(a:m<=o)(h:o<n):Mem.row G b c m n b o=c[o]?:=by simp[Mem.row,a,h]
theorem St.qW{i b m n:Nat}{c:Array Value}{t:TypeId}(h:St w0 G0 G L w)(hi:L.get i=some ⟨b,.cells c t (0,0),m⟩)(D:w0.L.get i=none)(s:m<=n):
  St w0 G0 (Mem.row G b c m n) ((i,some ⟨b,.cells c t (0,0),n⟩)::L) w/\Mem.le G (Mem.row G b c m n):=by
 obtain⟨A,B,C⟩:=h.loc i _ hi
 have q:=Mem.VA (c:=c) (n:=n) C
 have x:w0.w.heap.size<=b:=B.resolve_left (λ⟨y,e,_⟩=>by rw[D]at e;cases e)
 refine⟨⟨h.os,h.tape,h.output,h.drawn,h.size,h.block,Mem.le_trans h.base q,λb' o v f=>?_,λb' o v f=>?_,λj y l=>?_,λj k y z u d g=>?_⟩,q⟩
 .unfold Mem.row at f
  split at f
  .rename_i e
   obtain⟨d,_,_⟩:=e
   subst d
   rw[ŵ w b' o c t (0,0) A];exact f
  exact h.jj b' o v f
 .unfold Mem.row at f
  split at f
  .rename_i e
   obtain⟨d,_,_⟩:=e
   subst d
   exact .inr (.inl x)
  exact h.fresh b' o v f
 .rw[Lo.Zp]at l
  split at l
  .rename_i a
   subst a
   simp only[Đ]at l
   subst l
   refine⟨A,B,λk r=>?_⟩
   unfold Mem.row
   rw[if_neg (by dsimp only at r⊢;omega)]
   exact C k (ŋ s r)
  rename_i a
  obtain⟨F,H,I⟩:=h.loc j y l
  refine⟨F,H,λk r=>?_⟩
  have E:y.b≠b:=λe=>h.Ú i j _ y a hi l e.symm
  unfold Mem.row
  rw[ā (λe=>E e.1)]
  exact I k r
 rw[Lo.Zp]at d g
 split at d<;>split at g
 .omega
 .rename_i a p
  simp only[Đ]at d
  subst d
  exact h.Ú i k ⟨b,.cells c t (0,0),m⟩ z p hi g
 .rename_i a p
  simp only[Đ]at g
  subst g
  exact h.Ú j i y ⟨b,.cells c t (0,0),m⟩ (λe=>a e.symm) d hi
 exact h.Ú j k _ _ u d g
theorem St.Ý{i j:Nat}{x:ŀ Ow}(h:St w0 G0 G L w)(hi:L.get i=x)(n:w0.L.get i=none):St w0 G0 G ((j,x)::(i,none)::L) w:=by
 have key:∀k y,Lo.get ((j,x)::(i,none)::L) k=some y->(k=j/\L.get i=some y)\/(k≠j/\k≠i/\L.get k=some y):=by
  intro k y a;rw[Lo.Zp]at a;split at a
  .rename_i e;exact .inl ⟨e.symm,by rw[hi];exact a⟩
  rename_i e;rw[Lo.Zp]at a;split at a
  .cases a
  rename_i e';exact .inr ⟨λq=>e q.symm,λq=>e' q.symm,a⟩
 refine⟨h.os,h.tape,h.output,h.drawn,h.size,h.block,h.base,h.jj,h.fresh,λk y a=>?_,λk l y z f g m=>?_⟩
 .rcases key k y a with ⟨rfl,c⟩|⟨_,_,c⟩
  .obtain⟨r,s,t⟩:=h.loc i y c;exact⟨r,.inr (s.resolve_left (λ⟨y,e,_⟩=>by rw[n]at e;cases e)),t⟩
  exact h.loc k y c
 rcases key k y g with ⟨rfl,c⟩|⟨u,k2,c⟩<;>rcases key l z m with ⟨rfl,d⟩|⟨v,p,d⟩
 .omega
 .exact h.Ú i l y z (λe=>p e.symm) c d
 .exact h.Ú k i y z k2 c d
 exact h.Ú k l y z f c d
end
section
variable {P:Program}{N:Nat}{Q:ï}{fr:Fr}{S:Ξ}{ops:Array Oper}{l:Ŀ Oper}{dst:ŀ Nat}{ty:TypeId}{pos:String}{af:Array Edge}{g:ŀ (Nat×Bool)}
variable {w0:Bs}{G0 G:Mem}{L:Lo}
theorem JF{t:TypeId}{a:Addr}{v:Value}{w:World}(d:è P t)(c:w.cell? a=some v):(loadVar t a).run P w=.ok v w:=by simp[loadVar,d.run,load,Sem.run,c]
theorem Ed{t:TypeId}{b off n:Nat}{vs:Ŀ Value}{w:World}(a:fq P t n)(d:vs.length=n)(c:∀j v,vs[j]?=some v->w.cell? ⟨b,off+j,none⟩=some v):
  (loadVar t ⟨b,off,none⟩).run P w=.ok (.agg vs.toArray) w:=by
 have:=aa2 (P:=P) w ⟨b,off,none⟩ vs (λj v e=>by rw[oy];exact c j v e)
 subst d
 simp[loadVar,a.run,run_sizeOf a.2,this]
theorem Y0.î{t t':TypeId}{x:Operand}{b off m:Nat}{c:Array Value}{v:Value}(i:Nat)(h:è P t)(k:fr.ev x=some (.pointer (some ⟨b,off,none⟩)))
  (hi:L.get i=some ⟨b,.cells c t' (0,0),m⟩) (j:c[off]?=some v):Y0 P N ⟨dst,.load t x,ty,pos,af,g⟩ fr (St w0 G0 G L) v:=λa w e f=>by
 have d:=ŵ w b off c t' (0,0) (f.loc i _ hi).1
 rw[j]at d
 simp[execOp,e.ev k,Instr.loadAt,Instr.sureAddr,JF h d]
theorem Y0.eK{t t':TypeId}{x:Operand}{b n m:Nat}{c:Array Value}(i:Nat)(l:fq P t n)(p:fr.ev x=some (.pointer (some ⟨b,0,none⟩)))
  (hi:L.get i=some ⟨b,.cells c t' (0,0),m⟩) (h:c.size=n):Y0 P N ⟨dst,.load t x,ty,pos,af,g⟩ fr (St w0 G0 G L) (.agg c):=λa w d k=>by
 have e:=Ed (P:=P) (w:=w) (b:=b) (off:=0) (vs:=c.toList) l (by simpa using h) (λj v f=>by
  rw[ŵ w b (0+j) c t' (0,0) (k.loc i _ hi).1];simpa using f)
 simp[execOp,d.ev p,Instr.loadAt,Instr.sureAddr,e]
theorem Y0.ny{t t':TypeId}{x:Operand}{b off n m:Nat}{c:Array Value}(vs:Array Value)(i:Nat)(l:fq P t n)(q:fr.ev x=some (.pointer (some ⟨b,off,none⟩)))
  (hi:L.get i=some ⟨b,.cells c t' (0,0),m⟩) (h:vs.size=n) (p:∀j v,vs[j]?=some v->c[off+j]?=some v):Y0 P N ⟨dst,.load t x,ty,pos,af,g⟩ fr (St w0 G0 G L) (.agg vs):=λa w d k=>by
 have e:=Ed (P:=P) (w:=w) (b:=b) (off:=off) (vs:=vs.toList) l (by simpa using h) (λj v f=>by
  rw[ŵ w b (off+j) c t' (0,0) (k.loc i _ hi).1];exact p j v (by simpa using f))
 simp[execOp,d.ev q,Instr.loadAt,Instr.sureAddr,e]
theorem Y0.ia{t:TypeId}{x:Operand}{b off:Nat}{v:Value}(f:è P t)(i:fr.ev x=some (.pointer (some ⟨b,off,none⟩)))
  (h:G b off=some v):Y0 P N ⟨dst,.load t x,ty,pos,af,g⟩ fr (St w0 G0 G L) v:=λa w c e=>by
 have d:=e.jj b off v h
 simp[execOp,c.ev i,Instr.loadAt,Instr.sureAddr,JF f d]
theorem Y0.jF{t:TypeId}{x:Operand}{b off n:Nat}(vs:Array Value)(i:fq P t n)(l:fr.ev x=some (.pointer (some ⟨b,off,none⟩)))
  (f:vs.size=n) (k:∀j v,vs[j]?=some v->G b (off+j)=some v):Y0 P N ⟨dst,.load t x,ty,pos,af,g⟩ fr (St w0 G0 G L) (.agg vs):=λa w c h=>by
 have d:=Ed (P:=P) (w:=w) (b:=b) (off:=off) (vs:=vs.toList) i (by simpa using f) (λj v e=>h.jj _ _ _ (k j v (by simpa using e)))
 simp[execOp,c.ev l,Instr.loadAt,Instr.sureAddr,d]
theorem Zxy{t:TypeId}{z:Value}(d:(P.info? t).map (·.zero)=some (some z))(a:Act)(w:World):(execOp a.eval ⟨dst,.alloc t,ty,pos,af,g⟩).run P w=.ok (.value (.pointer (some ⟨w.heap.size,0,none⟩))) (w.alloc (.cells z.cells t)):=by
 cases c:P.info? t with
 |none=>simp[c]at d
 |some e=>
  simp only[c,Ğ,Đ]at d;simp[execOp,Instr.alloc,zeroValue,typeInfo,c,d,newVar,newRow]
theorem WL.alloc{t:TypeId}{z:Value}(i:Nat)(m:ξ ops fr ⟨dst,.alloc t,ty,pos,af,g⟩ true)(e:(P.info? t).map (·.zero)=some (some z))(j:Ω N dst)
  (k:∀b,WL P N ops Q l (θ dst (.pointer (some ⟨b,0,none⟩)) fr) (St w0 G0 G ((i,some ⟨b,.cells z.cells t (0,0),0⟩)::L))):WL P N ops Q (⟨dst,.alloc t,ty,pos,af,g⟩::l) fr (St w0 G0 G L):=by
 refine WL.yr (Φ:=λv w=>∃b,v=.pointer (some ⟨b,0,none⟩)/\St w0 G0 G ((i,some ⟨b,.cells z.cells t (0,0),0⟩)::L) w) m (λa w f d=>?_) j (λv a w f ⟨b,h,d⟩=>?_)
 .cases c:P.info? t with
  |none=>simp[c]at e
  |some n=>
   simp only[c,Ğ,Đ]at e
   have:(execOp a.eval ⟨dst,.alloc t,ty,pos,af,g⟩).run P w=.ok (.value (.pointer (some ⟨w.heap.size,0,none⟩))) (w.alloc (.cells z.cells t)):=by simp[execOp,Instr.alloc,zeroValue,typeInfo,c,e,newVar,newRow]
   rw[this]
   exact⟨_,rfl,d.push i _⟩
 subst h
 exact k b a w f d
theorem WL.box{t:TypeId}{x:Operand}{v:Value}(i:Nat)(h:ξ ops fr ⟨dst,.box t x,ty,pos,af,g⟩ true)(j:fr.ev x=some v)(f:Ω N dst)
  (k:∀b,WL P N ops Q l (θ dst (.pointer (some ⟨b,0,none⟩)) fr) (St w0 G0 G ((i,some ⟨b,.cells v.cells t (0,0),0⟩)::L))):WL P N ops Q (⟨dst,.box t x,ty,pos,af,g⟩::l) fr (St w0 G0 G L):=by
 refine WL.yr (Φ:=λm w=>∃b,m=.pointer (some ⟨b,0,none⟩)/\St w0 G0 G ((i,some ⟨b,.cells v.cells t (0,0),0⟩)::L) w) h (λa w c d=>?_) f (λv a w c ⟨b,e,d⟩=>?_)
 .have:(execOp a.eval ⟨dst,.box t x,ty,pos,af,g⟩).run P w=.ok (.value (.pointer (some ⟨w.heap.size,0,none⟩))) (w.alloc (.cells v.cells t)):=by
   simp[execOp,Instr.box,c.ev j,newVar,newRow]
  rw[this]
  exact⟨_,rfl,d.push i _⟩
 subst e
 exact k b a w c d
theorem QR{w:World}{b off:Nat}{c:Array Value}{t:TypeId}{v:Value}(h:w.heap[b]?=some (.cells c t (0,0))):(w.setCell ⟨b,off,none⟩ v).heap[b]?=some (.cells (c.setIfInBounds off v) t (0,0)):=heap_setCell_same w b off c t v h
theorem WL.eW{t t':TypeId}{x y:Operand}{b off:Nat}{c:Array Value}{v:Value}(i:Nat)(c':Array Value)(q:ξ ops fr ⟨none,.store t x y,ty,pos,af,g⟩ true)(s:(P.info? t).map (·.size)=some 1)
  (u:fr.ev x=some (.pointer (some ⟨b,off,none⟩))) (A:fr.ev y=some v) (hi:L.get i=some ⟨b,.cells c t' (0,0),0⟩) (r:off<c.size) (h:v.oneCell'=true) (nP:c.setIfInBounds off v=c')
  (k:WL P N ops Q l fr (St w0 G0 G ((i,some ⟨b,.cells c' t' (0,0),0⟩)::L))):WL P N ops Q (⟨none,.store t x y,ty,pos,af,g⟩::l) fr (St w0 G0 G L):=by
 subst nP
 refine WL.H4 q (λa w j n=>?_) k
 have d:=(n.loc i _ hi).1
 refine⟨w.setCell ⟨b,off,none⟩ v,?_,n.rJ hi (QR d) (Ċ _) (λk _ f _=>absurd f (ĵ k)) (λk f=>Below.heap_setCell w ⟨b,off,none⟩ v k f) rfl rfl rfl rfl ß⟩
 have m:=ŵ w b off c t' (0,0) d
 rw[Ō r]at m
 have p:=frozen_of_row w b off c t' d
 have e:v.cells = #[v]:=by cases v<;>first|rfl|simp[Value.oneCell']at h
 simp[execOp,j.ev u,j.ev A,Instr.storeAt,Instr.sureAddr,storeVar,run_sizeOf s,e,storeCells,run_store P w _ v _ h,oy,m,p]
theorem WL.fg{t t':TypeId}{x y:Operand}{b n:Nat}{c c':Array Value}(i:Nat)(p:ξ ops fr ⟨none,.store t x y,ty,pos,af,g⟩ true)(q:(P.info? t).map (·.size)=some n)
  (r:fr.ev x=some (.pointer (some ⟨b,0,none⟩))) (s:fr.ev y=some (.agg c')) (hi:L.get i=some ⟨b,.cells c t' (0,0),0⟩) (v:c.size=n) (nR:c'.size=n) (m:∀u∈c'.toList,u.oneCell'=true)
  (k:WL P N ops Q l fr (St w0 G0 G ((i,some ⟨b,.cells c' t' (0,0),0⟩)::L))):WL P N ops Q (⟨none,.store t x y,ty,pos,af,g⟩::l) fr (St w0 G0 G L):=by
 refine WL.H4 p (λa w f j=>?_) k
 have h:=(j.loc i _ hi).1
 have hr:=run_storeVar_row (P:=P) w b t' t c c' h (by rw[q,nR]) ŉ (by rw[Array.all_eq_true];intro i hi;exact m _ ß)
 refine⟨w.setRow b c',?_,j.rJ hi ?_ (Ċ _) (λk _ d _=>absurd d (ĵ k)) (λk d=>?_) rfl rfl rfl rfl (by simp[World.setRow])⟩
 .simp[execOp,f.ev r,f.ev s,Instr.storeAt,Instr.sureAddr,hr]
 .simp[World.setRow,ĩ,h]
 simp only[World.setRow,ĩ]
 rw[ā (λe=>d e.symm)]
theorem YC.of{f:FuncId}{args:Array Operand}{c:Array TypeId}{vs:Ŀ Value}(h:Enters P f)(i:fr.iy args.toList=some vs):YC P N ⟨dst,.call ⟨.value (.func f),args,c⟩,ty,pos,af,g⟩ fr S f vs.toArray:=λa w e _=>by
 have d:args.map a.eval=vs.toArray:=by apply ź;simpa using e.iy _ _ i
 simpa[execOp,resolve,d,Act.eval,Deferred.ofValue,invoke]using h vs.toArray w
theorem YC.ym{f:FuncId}{x:Operand}{args:Array Operand}{c:Array TypeId}{vs:Ŀ Value}{cap:Array Value}(h:Enters P f)(j:fr.ev x=some (.func (.func f) #[] cap))(i:fr.iy args.toList=some vs):
  YC P N ⟨dst,.call ⟨.value x,args,c⟩,ty,pos,af,g⟩ fr S f (vs.toArray++cap):=λa w d _=>by
 have e:args.map a.eval=vs.toArray:=by apply ź;simpa using d.iy _ _ i
 simpa[execOp,resolve,e,d.ev j,Deferred.ofValue,invoke]using h (vs.toArray++cap) w
theorem St.hp{d:Lo}{w:World}(h:St w0 G0 G L w)(a:Lo.sub d L):Hp G d w:=
 ⟨h.jj,λi x e=>⟨(h.loc i x (a _ _ e)).1,(h.loc i x (a _ _ e)).2.2⟩,λi j x y c e e'=>h.Ú i j x y c (a _ _ e) (a _ _ e')⟩
theorem Ext.nil{w w':World}{G':Mem}{L':Lo}(h:Ext w G [] w' G' L'):Ext w G [] w' G' []:={ h with loc:=λi x a=>by simp[Lo.get]at a,Ú:=λi j x y _ a=>by simp[Lo.get]at a }
def Lo.gn(L:Lo)(ks:Ŀ Nat):Lo:=ks.map (λk=>(k,none))++L
theorem Lo.AD{L:Lo}{i:Nat}:∀{ks:Ŀ Nat}{x:Ow},(L.gn ks).get i=some x->L.get i=some x/\i ∉ ks
 |[],_,h=>⟨h,ß⟩
 |k::ks,x,h=>by
  simp only[Lo.gn,ġ,Ļ]at h;rw[Lo.Zp]at h;split at h
  .cases h
  rename_i a;obtain⟨c,h2⟩:=Lo.AD (ks:=ks) h;exact⟨c,by simp only[Ď,not_or];exact⟨λe=>a e.symm,h2⟩⟩
theorem Lo.get_append(A B:Lo)(i:Nat)(x:Ow)(h:Lo.get (A++B) i=some x):A.get i=some x\/B.get i=some x:=by
 induction A with
 |nil=>exact .inr h
 |cons p A a=>
  obtain⟨k,q⟩:=p;simp only[Ļ]at h;rw[Lo.Zp]at h;rw[Lo.Zp];split at h
  .rename_i e;rw[ą e];exact .inl h
  rename_i e;rw[ā e];exact a h
theorem YC.yr{o:Oper}{f:FuncId}{args c:Array Value}{pre:Mem->Prop}{post:Mem->Value->Prop}(h:YC P N o fr (St w0 G0 G L) f c)(m:iC P f args pre post)(e:c=args)(hp:pre G):
  YR P N o fr (St w0 G0 G L) (λv w'=>∃G',Mem.le G G'/\St w0 G0 G' L w'/\post G' v):=λa w j d=>by
 rw[h a w j d]
 subst e
 exact(m w G (d.hp (Lo.Zq _)) hp).mono λe' w' ⟨r,G',L',k,g,l⟩=>⟨r,k,G',g.le,d.ext g.nil (Lo.Zq _) (λ_ _ h=>h) (λ_ _ _=>rfl) (λi x y hi=>by simp[Lo.get]at hi) (λ_ _ h=>.inr h),l⟩
theorem WL.call{op:Op}{f:FuncId}{args c:Array Value}{pre:Mem->Prop}{post:Mem->Value->Prop}(m:ξ ops fr ⟨dst,op,ty,pos,af,g⟩ true)(j:Ω N dst)(h:YC P N ⟨dst,op,ty,pos,af,g⟩ fr (St w0 G0 G L) f c)
  (n:iC P f args pre post) (e:c=args) (hp:pre G) (k:∀v G',Mem.le G G'->post G' v->WL P N ops Q l (θ dst v fr) (St w0 G0 G' L)):WL P N ops Q (⟨dst,op,ty,pos,af,g⟩::l) fr (St w0 G0 G L):=
 WL.yr m (h.yr n e hp) j (λv a w i ⟨G',d,h2,h3⟩=>k v G' d h3 a w i h2)
theorem YC.y0{o:Oper}{f:FuncId}{args d:Array Value}{pre:Mem->Prop}{c:Value}(h:YC P N o fr (St w0 G0 G L) f d)(k:iC P f args pre (λ_ r=>r=c))(e:d=args)(hp:pre G):
  YR P N o fr (St w0 G0 G L) (λv w'=>v=c/\St w0 G0 G L w'):=λa w j g=>(h.yr k e hp a w j g).mono λ_ _ ⟨_,i,h2,h3⟩=>⟨h3,h2.eI g.base i⟩
theorem WL.gg{op:Op}{f:FuncId}{args d:Array Value}{pre:Mem->Prop}{c:Value}(n:ξ ops fr ⟨dst,op,ty,pos,af,g⟩ true)(m:Ω N dst)(h:YC P N ⟨dst,op,ty,pos,af,g⟩ fr (St w0 G0 G L) f d)
  (p:iC P f args pre (λ_ r=>r=c)) (e:d=args) (hp:pre G) (k:WL P N ops Q l (θ dst c fr) (St w0 G0 G L)):WL P N ops Q (⟨dst,op,ty,pos,af,g⟩::l) fr (St w0 G0 G L):=
 WL.yr n (h.y0 p e hp) m (λv a w j ⟨i,h2⟩=>by subst i;exact k a w j h2)
theorem gr.ext{g:Gx}{G':Mem}{w w':World}(h:gr w0 G0 g L w)(e:Ext w g.m [] w' G' []):gr w0 G0 ⟨G',g.x⟩ L w' where
 st:=h.st.ext e (Lo.Zq _) (λ_ _ h=>h) (λ_ _ _=>rfl) (λi x y hi=>by simp[Lo.get]at hi) (λ_ _ h=>.inr h)
 own:=λb i o l=>by
  obtain⟨d,h2,h3,j⟩:=h.own b i o l;have c:b<w.heap.size:=(ĕ.1 d).1;refine⟨by rw[e.block b c (λ_ _ h=>by simp[Lo.get]at h)];exact d,h2,λk=>?_,j⟩;cases f:G' b k with
  |none=>exact f
  |some v=>
   rcases e.fresh b k v f with a|a|a
   .rw[h3 k]at a;cases a
   .omega
   exact(Lo.ZAe a).elim
theorem YC.XW{o:Oper}{F:Fr}{g:Gx}{f:FuncId}{args c:Array Value}{pre:Mem->Prop}{post:Mem->Value->Prop}(h:YC P N o F (gr w0 G0 g L) f c)(m:iC P f args pre post)(e:c=args)(hp:pre g.m):
  YR P N o F (gr w0 G0 g L) (λv w'=>∃g':Gx,Gx.le g g'/\gr w0 G0 g' L w'/\post g'.m v):=λa w j d=>by
 rw[h a w j d]
 subst e
 exact(m w g.m (d.st.hp (Lo.Zq _)) hp).mono λe' w' ⟨r,G',L',k,i,l⟩=>⟨r,k,⟨G',g.x⟩,⟨i.le,λ_ _ h=>h⟩,d.ext i.nil,l⟩
theorem YC.y0X{o:Oper}{F:Fr}{g:Gx}{f:FuncId}{args a:Array Value}{pre:Mem->Prop}{c:Value}(h:YC P N o F (gr w0 G0 g L) f a)(d:iC P f args pre (λ_ r=>r=c))(e:a=args)(hp:pre g.m):
  YR P N o F (gr w0 G0 g L) (λv w'=>∃g':Gx,Gx.le g g'/\gr w0 G0 g' L w'/\v=c):=h.XW d e hp
theorem gE.y0{F:Fr}{G':Gx}{o:Oper}{c:Value}(f:ξ ops F o true)(h:Y0 P N o F (St w0 G0 G'.m L) c):gE P N w0 G0 L ops F G' o (λv _=>v=c):=
 .inr ⟨f,λa w e d=>by rw[h a w e d.st];exact⟨G',Gx.le_refl _,d,rfl⟩⟩
theorem gE.gg{F:Fr}{G':Gx}{o:Oper}{f:FuncId}{args a:Array Value}{pre:Mem->Prop}{c:Value}(d:ξ ops F o true)(h:YC P N o F (gr w0 G0 G' L) f a)(g:iC P f args pre (λ_ r=>r=c))(e:a=args)(hp:pre G'.m):
  gE P N w0 G0 L ops F G' o (λv _=>v=c):=.inr ⟨d,h.y0X g e hp⟩
theorem gE.call{F:Fr}{G':Gx}{o:Oper}{f:FuncId}{args a:Array Value}{pre:Mem->Prop}{post:Mem->Value->Prop}(d:ξ ops F o true)(h:YC P N o F (gr w0 G0 G' L) f a)(g:iC P f args pre post)(e:a=args)(hp:pre G'.m):
  gE P N w0 G0 L ops F G' o (λv c=>post c.m v):=.inr ⟨d,h.XW g e hp⟩
theorem gE.skip{F:Fr}{G':Gx}{o:Oper}(a:ξ ops F o false):gE P N w0 G0 L ops F G' o (λv _=>v=undef):=.inl ⟨a,rfl⟩
def Laid(d:Nat)(a:Obj):Value->Gx->Prop:=λv g=>∃b,v=.pointer (some ⟨b,0,none⟩)/\g.x b=some (d,a)
theorem Laid.mono{d:Nat}{a:Obj}(v:Value)(g g':Gx)(h:Gx.qX d g g'):Laid d a v g->Laid d a v g':=λ⟨b,c,h2⟩=>⟨b,c,h.2 _ _ h2⟩
theorem gE.laid{F:Fr}{G':Gx}{o:Oper}(d:Nat)(g:Obj)(B:ξ ops F o true)(h:∀a w,Rel N F a->(execOp a.eval o).run P w=.ok (.value (.pointer (some ⟨w.heap.size,0,none⟩))) (w.alloc g)):gE P N w0 G0 L ops F G' o (Laid d g):=
 .inr ⟨B,λa w A f=>by
  rw[h a w A];refine⟨⟨G'.m,λb=>if b=w.heap.size then some (d,g)else G'.x b⟩,⟨Mem.le_refl _,λb y c=>?_⟩,⟨?_,λb i o' c=>?_⟩,w.heap.size,rfl,ß⟩
  .obtain⟨i,o'⟩:=y;have m:b<w.heap.size:=(ĕ.1 (f.own b i o' c).1).1;simp only[ā (show b≠w.heap.size by omega)];exact c
  .have q:∀(L:Lo) (n:Nat),∃K,n<=K/\L.get K=none:=by
    intro L;induction L with
    |nil=>intro n;exact⟨n,Ċ _,rfl⟩
    |cons p L E=>
     intro n;obtain⟨K,l,h2⟩:=E (max n (p.1+1));refine⟨K,ŉ,?_⟩;rw[Lo.Zp,ā ŉ];exact h2
   obtain⟨K,_,u⟩:=q L 0;refine(f.st.push K g).weaken λi x s=>?_;rw[Lo.Zp,ā (λe=>by subst e;rw[u]at s;cases s)];exact s
  have r:=f.st.size;dsimp only at c;split at c
  .rename_i e;cases c;subst e;refine⟨by unfold World.alloc;rw[Array.getElem?_push,if_pos rfl],r,λk=>?_,λj y C=>?_⟩
   .cases D:G'.m w.heap.size k with
    |none=>rfl
    |some v=>
     have:=f.st.jj _ _ _ D;simp[World.cell?]at this
   have:=(ĕ.1 (f.st.loc j y C).1).1;omega
  obtain⟨l,h2,h3,t⟩:=f.own b i o' c;have m:b<w.heap.size:=(ĕ.1 l).1;refine⟨?_,h2,h3,t⟩;simp only[World.alloc,Array.getElem?_push,ā (show b≠w.heap.size by omega)];exact l⟩
theorem gr.mQ{g:Gx}{w:World}{d b:Nat}{n:Obj}(h:gr w0 G0 g L w)(r:g.x b=some (d,n)):gr w0 G0 ⟨g.m,λk=>if k=b then none else g.x k⟩ ((d,some ⟨b,n,0⟩)::L) w:=by
 obtain⟨q,h2,h3,p⟩:=h.own b d n r;have a:=h.st;refine⟨⟨a.os,a.tape,a.output,a.drawn,a.size,a.block,a.base,a.jj,a.fresh,λj y c=>?_,λj k y z f m l=>?_⟩,λb' i o' oZ=>?_⟩
 .rw[Lo.Zp]at c;split at c
  .cases c;exact⟨q,.inr h2,λk _=>h3 k⟩
  exact a.loc j y c
 .rw[Lo.Zp]at m l;split at m
  .cases m;split at l
   .omega
   exact λe=>p k z l e.symm
  split at l
  .cases l;exact p j y m
  exact a.Ú j k _ _ f m l
 dsimp only at oZ;split at oZ
 .cases oZ
 rename_i f;obtain⟨s,k2,k3,t⟩:=h.own b' i o' oZ;refine⟨s,k2,k3,λj y c=>?_⟩;rw[Lo.Zp]at c;split at c
 .cases c;exact λe=>f e.symm
 exact t j y c
section
variable {fs:Ŀ Bool}{r:Ŀ Oper}{Ι:Fr}{Ρ:jr}{o:Oper}{Bt:Ξ}
theorem γ.Na{c:Value}(h:∀u G',Gx.le (Gx.of G) G'->ñ ops o Ρ u G'->gE P N w0 G0 L ops (ς Ρ u++(Ι++fr)) G' o (λv _=>v=c))(k:γ P N Q fr w0 G0 G L ops Bt fs r (θ o.dst c Ι) Ρ):
  γ P N Q fr w0 G0 G L ops Bt (false::fs) (o::r) Ι Ρ:=.inl ⟨c,h,k⟩
theorem γ.oW(d:Nat)(φ:Value->Gx->Prop)(e:o.dst=some d)(f:∀v a c,Gx.qX d a c->φ v a->φ v c)
  (h:∀u G',Gx.le (Gx.of G) G'->ñ ops o Ρ u G'->gE P N w0 G0 L ops (ς Ρ u++(Ι++fr)) G' o φ) (k:γ P N Q fr w0 G0 G L ops Bt fs r Ι ((d,φ)::Ρ)) :
  γ P N Q fr w0 G0 G L ops Bt (false::fs) (o::r) Ι Ρ:=.inr (.inl ⟨d,φ,e,f,h,k⟩)
theorem γ.ya(d k:Nat)(φ:Value->Gx->Prop)(e:o.dst=some d)(f:Ρ.any (λp=>Nat.beq p.1 k)=true)(g:(o.looksAt ops).contains k=true)(j:lj ops k=true)(i:∀v a c,Gx.qX d a c->φ v a->φ v c)
  (h:∀u G',Gx.le (Gx.of G) G'->ñ ops o Ρ u G'->pE P N w0 G0 L ops (some k) (ς Ρ u++(Ι++fr)) G' o φ) (kk:γ P N Q fr w0 G0 G L ops Bt fs r Ι ((d,φ)::iF (some k) Ρ)) :
  γ P N Q fr w0 G0 G L ops Bt (false::fs) (o::r) Ι Ρ:=.inr (.inr ⟨d,φ,k,e,f,g,j,i,h,kk⟩)
theorem γ.l6(e:Mem.le G0 G)(k:WL P N ops (NX Q) r (Ι++fr) (St w0 G0 G L)):γ P N Q fr w0 G0 G L ops (λ_=>True) [] r Ι []:=λ_ _ c _=>eY.of λa w d f=>k a w d (f.st.eI e c.1)
theorem γ.DP{d:Nat}{e:Obj}(i:Mem.le G0 G)(k:∀b,WL P N ops (NX Q) r ((d,.pointer (some ⟨b,0,none⟩))::(Ι++fr)) (St w0 G0 G ((d,some ⟨b,e,0⟩)::L))):γ P N Q fr w0 G0 G L ops (λ_=>True) [] r Ι [(d,Laid d e)]  :=λu g c l=>eY.of λa w f j=>by
 obtain⟨b,h,h2⟩:=l.1;refine k b a w ?_ ((j.mQ h2).st.eI i c.1);have:ς [(d,Laid d e)] u=[(d,.pointer (some ⟨b,0,none⟩))]:=by simp[ς,h]
 rw[this]at f;exact f
theorem γ.y0{c:Value}(d:ξ ops (Ι++fr) o true)(h:∀G',Mem.le G G'->Y0 P N o (Ι++fr) (St w0 G0 G' L) c)(k:γ P N Q fr w0 G0 G L ops Bt fs r (θ o.dst c Ι) []):
  γ P N Q fr w0 G0 G L ops Bt (false::fs) (o::r) Ι []:=.inl ⟨c,λ_ G' a _=>gE.y0 d (h G'.m a.1),k⟩
theorem γ.float{c:Value}(e:ξ ops (Ι++fr) o true)(h:Y0 P N o (Ι++fr) (λ_=>True) c)(k:γ P N Q fr w0 G0 G L ops Bt fs r (θ o.dst c Ι) []):
  γ P N Q fr w0 G0 G L ops Bt (true::fs) (o::r) Ι []:=.inl ⟨c,λ_ _ _ _=>⟨e,λa w d _=>h a w d trivial⟩,k⟩
theorem γ.gg{f:FuncId}{args a:Array Value}{pre:Mem->Prop}{c:Value}(g:ξ ops (Ι++fr) o true)(h:∀S,YC P N o (Ι++fr) S f a)(i:iC P f args pre (λ_ r=>r=c))(e:a=args)(hp:∀G',Mem.le G G'->pre G')
  (k:γ P N Q fr w0 G0 G L ops Bt fs r (θ o.dst c Ι) []):γ P N Q fr w0 G0 G L ops Bt (false::fs) (o::r) Ι []:=.inl ⟨c,λ_ G' d _=>gE.gg g (h _) i e (hp G'.m d.1),k⟩
theorem γ.skip(a:ξ ops (Ι++fr) o false)(k:γ P N Q fr w0 G0 G L ops Bt fs r (θ o.dst undef Ι) []):γ P N Q fr w0 G0 G L ops Bt (false::fs) (o::r) Ι []:=.inl ⟨undef,λ_ _ _ _=>gE.skip a,k⟩
theorem γ.alloc{t:TypeId}{z:Value}{d:Nat}(c:∀u,ξ ops (ς Ρ u++(Ι++fr)) ⟨some d,.alloc t,ty,pos,af,g⟩ true)(e:(P.info? t).map (·.zero)=some (some z))
  (k:γ P N Q fr w0 G0 G L ops Bt fs r Ι ((d,Laid d (.cells z.cells t (0,0)))::Ρ)):γ P N Q fr w0 G0 G L ops Bt (false::fs) (⟨some d,.alloc t,ty,pos,af,g⟩::r) Ι Ρ:=
 γ.oW d _ rfl (λv _ _ h=>Laid.mono v _ _ h) (λu _ _ _=>gE.laid d _ (c u) (λa w _=>Zxy e a w)) k
end
end
section
variable {w0:Bs}{G0 G:Mem}{L:Lo}
theorem Hp.st{w:World}(h:Hp G L w):St ⟨w,L⟩ G G L w:=
 ⟨rfl,rfl,rfl,Ċ _,Ċ _,λ_ _ _=>rfl,Mem.le_refl _,h.jj,λ_ _ _ h=>.inl h,λi x a=>⟨(h.loc i x a).1,.inl ⟨x,a,rfl⟩,(h.loc i x a).2⟩,h.Ú⟩
theorem St.kH{G':Mem}{L':Lo}{w w':World}(h:St ⟨w,L⟩ G G' L' w'):Ext w G L w' G' L':=
 ⟨h.os,h.tape,h.output,h.drawn,h.size,h.block,h.base,h.jj,h.fresh,h.loc,h.Ú⟩
end
def kz:Ŀ Value->Nat->Fr
 |[],_=>[]
 |v::r,k=>(k,v)::kz r (k+1)
theorem Li:∀(l:Ŀ Value) (k t:Nat) (v:Value),Fr.get (kz l k) t=some v->k<=t/\l[t-k]?=some v
 |[],k,t,v,h=>by simp[kz,Fr.get]at h
 |x::r,k,t,v,h=>by
  simp only[kz]at h;rw[Fr.Zp]at h;split at h
  .rename_i e;subst e;simpa using h
  have:=Li r (k+1) t v h;refine⟨ŉ,?_⟩;rw[show t-k=(t-(k+1))+1 by omega];simpa using this.2
section
variable {P:Program}{fn:Func}{fr:Fr}{w0:Bs}{G0 G:Mem}{L:Lo}{N:Nat}
theorem eR.enter{f:FuncId}{c:Code}{args:Ŀ Value}{a:Lo}{pre:Mem->Prop}{post:Mem->Lo->Value->Prop}(k:P.funcs[f]?=some fn)(j:fn.body=some c)(m:fn.ntmps=N)(g:Nat.ble args.length N=true)
  (h:∀w0 G0,w0.L=a->pre G0->WC P N c (bodyPost P fn (jS w0 G0 post)) (kz args 0) (St w0 G0 G0 a)):eR P f args.toArray a pre post:=by
 intro w G hi hp
 refine calls_of_wp k j (h ⟨w,a⟩ G rfl hp _ w ⟨rfl,?_,λt v l=>?_⟩ ⟨rfl,rfl,rfl,Ċ _,Ċ _,λ_ _ _=>rfl,Mem.le_refl _,hi.jj,λ_ _ _ h=>.inl h,λi x d=>⟨(hi.loc i x d).1,.inl ⟨x,d,rfl⟩,(hi.loc i x d).2⟩,hi.Ú⟩)
 .have:=Ĩ g
  simp only[aaA,Į,Array.size_replicate]
  omega
 obtain⟨_,h2⟩:=Li args 0 t v l
 simp only[aaB]at h2
 have e:=(ċ.1 h2).1
 rw[ň (by simpa using e)]
 simpa using h2
theorem iC.enter{f:FuncId}{c:Code}{args:Ŀ Value}{pre:Mem->Prop}{post:Mem->Value->Prop}(g:P.funcs[f]?=some fn)(e:fn.body=some c)(a:fn.ntmps=N)(d:Nat.ble args.length N=true)
  (h:∀w0 G0,w0.L=[]->pre G0->WC P N c (bodyPost P fn (vf w0 G0 post)) (kz args 0) (St w0 G0 G0 [])):iC P f args.toArray pre post:=eR.enter g e a d h
def RV(P:Program)(fr:Fr)(L:Lo):ResultVar->Value->Prop
 |.tmp t,v=>fr.get t=some v
 |.cell t ty,v=>∃i b c t' m,fr.get t=some (.pointer (some ⟨b,0,none⟩))/\L.get i=some ⟨b,.cells c t' (0,0),m⟩/\((∃n,fq P ty n/\c.size=n/\v=.agg c)\/(è P ty/\c[0]?=some v))
theorem RV.pT{t ty t' i b n m:Nat}{c:Array Value}(e:fq P ty n)(a:fr.get t=some (.pointer (some ⟨b,0,none⟩)))(h2:L.get i=some ⟨b,.cells c t' (0,0),m⟩)(d:c.size=n):RV P fr L (.cell t ty) (.agg c):=
 ⟨i,b,c,t',m,a,h2,.inl ⟨n,e,d,rfl⟩⟩
def lg(tmps:Array Value):ResultVar->Sem Value
 |.tmp t=>pure (tmps.getD t undef)
 |.cell a t=>do loadVar t (<-asAddr (tmps.getD a undef))
theorem RV.run{rv:ResultVar}{v:Value}{a:Act}{w:World}(h:RV P fr L rv v)(g:Rel N fr a)(r:St w0 G0 G L w):(lg a.tmps rv).run P w=.ok v w:=by
 cases rv with
 |tmp t=>simp[lg,g.here t v h]
 |cell t ty=>
  obtain⟨i,b,c,t',m,p,h2,h3⟩:=h;have k:=(r.loc i _ h2).1;have f:a.tmps.getD t undef=.pointer (some ⟨b,0,none⟩):=by simp[g.here t _ p]
  rcases h3 with ⟨n,d,e,rfl⟩|⟨d,e⟩
  .have:=Ed (P:=P) (w:=w) (b:=b) (off:=0) (vs:=c.toList) d (by simpa using e) (λj v q=>by
    rw[ŵ w b (0+j) c t' (0,0) k];simpa using q)
   simp only[lg,f,asAddr];simpa using this
  have l:=ŵ w b 0 c t' (0,0) k;rw[e]at l;have:=JF (P:=P) d l;simp only[lg,f,asAddr];simpa using this
theorem Zv1(fn:Func)(tmps:Array Value):results fn tmps=(do let vs <-fn.results.mapM (lg tmps);pure (if h:vs.size=1 then vs[0]else .tuple vs)):=by unfold results;congr 2
theorem KI{rvs:Ŀ ResultVar}{vs:Ŀ Value}{a:Act}{w:World}(hr:fn.results=rvs.toArray)(c:rvs.length=vs.length)(h:∀(i:Nat) (rv:ResultVar) (v:Value),rvs[i]?=some rv->vs[i]?=some v->(lg a.tmps rv).run P w=.ok v w):
  (results fn a.tmps).run P w=.ok (if h:vs.toArray.size=1 then vs.toArray[0]else .tuple vs.toArray) w:=by
 have key:∀(rvs:Ŀ ResultVar) (vs:Ŀ Value),rvs.length=vs.length->(∀(i:Nat) (rv:ResultVar) (v:Value),rvs[i]?=some rv->vs[i]?=some v->(lg a.tmps rv).run P w=.ok v w)->(rvs.mapM (lg a.tmps)).run P w=.ok vs w:=by
  intro rvs;induction rvs with
  |nil=>intro vs c _;cases vs with|nil=>simp|cons=>simp at c
  |cons rv rvs l=>
   intro vs c h;cases vs with
   |nil=>simp at c
   |cons v vs=>
    have g:=h 0 rv v rfl rfl;have j:=l vs (by simpa using c) (λi d m e f=>h (i+1) d m (by simpa using e) (by simpa using f));simp[List.mapM_cons,g,j]
 rw[Zv1,hr]
 have k:=key rvs vs c h
 rw[List.mapM_toArray]
 simp[k]
theorem WE.ret{rvs:Ŀ ResultVar}{post:Mem->Lo->Value->Prop}(vs:Ŀ Value)(hr:fn.results=rvs.toArray)(g:rvs.length=vs.length)(h:∀(i:Nat) (rv:ResultVar) (v:Value),rvs[i]?=some rv->vs[i]?=some v->RV P fr L rv v)
  (hp:post G L (if h:vs.toArray.size=1 then vs.toArray[0]else .tuple vs.toArray)):WE N (bodyPost P fn (jS w0 G0 post)) .ret fr (St w0 G0 G L):=λa w d c=>
 ⟨d.defers,_,KI hr g (λi rv v e f=>(h i rv v e f).run d c),_,G,L,rfl,⟨c.os,c.tape,c.output,c.drawn,c.size,c.block,c.base,c.jj,c.fresh,c.loc,c.Ú⟩,hp⟩
theorem WE.jb{post:Mem->Lo->Value->Prop}(h:WE N (bodyPost P fn (jS w0 G0 post)) .ret fr (St w0 G0 G L)):WE N (bodyPost P fn (jS w0 G0 post)) .normal fr (St w0 G0 G L):=h
theorem WE.ja{c:ResultVar}{d:Value}{post:Mem->Lo->Value->Prop}(hr:fn.results = #[c])(f:RV P fr L c d)(hp:post G L d):WE N (bodyPost P fn (jS w0 G0 post)) .ret fr (St w0 G0 G L):=
 WE.ret (rvs:=[c]) [d] hr rfl (λi rv v a e=>by
  match i with
  |0=>simp at a e;subst a e;exact f
  |i+1=>simp at a) hp
theorem WE.uX{d e:ResultVar}{f g:Value}{post:Mem->Lo->Value->Prop}(hr:fn.results = #[d,e])(h:RV P fr L d f)(h2:RV P fr L e g)(hp:post G L (.tuple #[f,g])):WE N (bodyPost P fn (jS w0 G0 post)) .ret fr (St w0 G0 G L):=
 WE.ret (rvs:=[d,e]) [f,g] hr rfl (λi rv v a c=>by
  match i with
  |0=>simp at a c;subst a c;exact h
  |1=>simp at a c;subst a c;exact h2
  |i+2=>simp at a) hp
theorem WE.Dp{d e f:ResultVar}{g h j:Value}{post:Mem->Lo->Value->Prop}(hr:fn.results = #[d,e,f])(k:RV P fr L d g)(h2:RV P fr L e h)(h3:RV P fr L f j)(hp:post G L (.tuple #[g,h,j])):
  WE N (bodyPost P fn (jS w0 G0 post)) .ret fr (St w0 G0 G L):=
 WE.ret (rvs:=[d,e,f]) [g,h,j] hr rfl (λi rv v a c=>by
  match i with
  |0=>simp at a c;subst a c;exact k
  |1=>simp at a c;subst a c;exact h2
  |2=>simp at a c;subst a c;exact h3
  |i+3=>simp at a) hp
theorem WE.iL{post:Mem->Lo->Value->Prop}(hr:fn.results = #[])(hp:post G L (.tuple #[])):WE N (bodyPost P fn (jS w0 G0 post)) .ret fr (St w0 G0 G L):=
 WE.ret (rvs:=[]) [] hr rfl (λi rv v a c=>by simp at a) hp
end
section
variable {P:Program}{N:Nat}{Q:ï}{fr:Fr}{S:Ξ}{ops:Array Oper}{l:Ŀ Oper}{dst:ŀ Nat}{ty:TypeId}{pos:String}{af:Array Edge}{g:ŀ (Nat×Bool)}
variable {w0:Bs}{G0 G:Mem}{L:Lo}
theorem WL.kO{op:Op}{p:Prop}[Decidable p](c:ξ ops fr ⟨dst,op,ty,pos,af,g⟩ true)(h:Y0 P N ⟨dst,op,ty,pos,af,g⟩ fr S (.bool (decide p)))(a:Ω N dst)
  (kt:p->WL P N ops Q l (θ dst (.bool true) fr) S) (d:¬p->WL P N ops Q l (θ dst (.bool false) fr) S):WL P N ops Q (⟨dst,op,ty,pos,af,g⟩::l) fr S:=by
 by_cases hp:p
 .exact WL.rf c (h.eq (Ē Value.bool (ă hp))) a (kt hp)
 exact WL.rf c (h.eq (Ē Value.bool (Ĉ hp))) a (d hp)
theorem γ.kO{Bt:Ξ}{fs:Ŀ Bool}{r:Ŀ Oper}{Ι:Fr}{o:Oper}{p:Prop}[Decidable p](c:ξ ops (Ι++fr) o true)(h:∀G',Mem.le G G'->Y0 P N o (Ι++fr) (St w0 G0 G' L) (.bool (decide p)))
  (kt:p->γ P N Q fr w0 G0 G L ops Bt fs r (θ o.dst (.bool true) Ι) []) (d:¬p->γ P N Q fr w0 G0 G L ops Bt fs r (θ o.dst (.bool false) Ι) []):γ P N Q fr w0 G0 G L ops Bt (false::fs) (o::r) Ι []:=by
 by_cases hp:p
 .exact γ.y0 c (λG' a=>(h G' a).eq (Ē Value.bool (ă hp))) (kt hp)
 exact γ.y0 c (λG' a=>(h G' a).eq (Ē Value.bool (Ĉ hp))) (d hp)
theorem Y0.C7{t:TypeId}{x:Operand}{p:Prop}[Decidable p](a:fr.ev x=some (.bool (decide p))):Y0 P N ⟨dst,.unOp .not t x,ty,pos,af,g⟩ fr S (.bool (decide (¬p))):=
 (Y0.not a).eq (by by_cases h:p<;>simp[h])
theorem Y0.iU{t e:TypeId}{x y:Operand}{len cap b off sz i:Nat}{k:IntKind}(c:P.underlying t=some (.slice e))(a:(P.info? e).map (·.size)=some sz)
  (d:fr.ev x=some (.slice (some ⟨b,off,none⟩) len cap)) (f:fr.ev y=some (.int k (i:Int))) (hi:i<len):Y0 P N ⟨dst,.indexAddr t x y,ty,pos,af,g⟩ fr S (.pointer (some ⟨b,off+i*sz,none⟩)):=
 (Y0.sD c a d f ŉ).eq ß
def vd{X:Type}(N:Nat)(F:X->Fr)(H:X->Prop)(I:X->Ξ)(m:X->Nat)(x:X):Act->World->Prop:=λa w=>∃x',H x'/\Rel N (F x') a/\I x' w/\m x'<m x
theorem WC.hJ{c:Code}{X:Type}(F:X->Fr)(H:X->Prop)(I:X->Ξ)(m:X->Nat)(d:X)(g:Fr.sub (F d) fr)(hH:H d)(h:∀w,S w->I d w)
  (round:∀x,H x->WC P N c (Exit.then (vd N F H I m x) Q) (F x) (I x)):WC P N (.loop c) Q fr S:=
 WC.loop (λx:{ x:X // H x }=>F x.1) (λx=>I x.1) (λx=>m x.1) ⟨d,hH⟩ g h λx a w i j=>aaW (λe a' w' f=>by
  cases e<;>first|exact f|(obtain⟨x',k,l,n,q4⟩:=f;exact⟨⟨x',k⟩,l,n,q4⟩)) (round x.1 x.2 a w i j)
theorem WE.gJ{X:Type}{F:X->Fr}{H:X->Prop}{I:X->Ξ}{m:X->Nat}{x:X}(x':X)(hH:H x')(a:Fr.sub (F x') fr)(c:∀w,S w->I x' w)(e:m x'<m x):
  WE N (Exit.then (vd N F H I m x) Q) .normal fr S:=λ_ w d f=>⟨x',hH,d.weaken a,c w f,e⟩
end
structure Cq (α:Type) where
 wp:(α->Prop)->Prop
 mono:∀{p q:α->Prop},(∀a,p a->q a)->wp p->wp q
 ev:Nat->ŀ α
 sound:∀n a,ev n=some a->∀p:α->Prop,p a->wp p
def Cq.ω{α:Type}(c:Cq α)(r:α):Prop:=c.wp λa=>a=r
def Out{σ ρ:Type}(A:σ->Prop)(Φ:ρ->Prop):σ⊕ρ->Prop
 |.inl s=>A s
 |.inr r=>Φ r
theorem Out.mono{σ ρ:Type}{A A':σ->Prop}{Φ a:ρ->Prop}(h:∀s,A s->A' s)(k:∀r,Φ r->a r):∀o,Out A Φ o->Out A' a o
 |.inl s,x=>h s x
 |.inr r,x=>k r x
namespace Cq
variable {α β σ ρ:Type}
def ret(a:α):Cq α:=⟨λp=>p a,λh=>h a,λ_=>some a,λn b h p hp=>by cases h;exact hp⟩
def fail:Cq α:=⟨λ_=>False,λ_ h=>h,λ_=>none,λ_ _ h=>by cases h⟩
def bind(c:Cq α)(k:α->Cq β):Cq β:=
 ⟨λp=>∃a,c.ω a/\(k a).wp p,λh ⟨a,e,h2⟩=>⟨a,e,(k a).mono h h2⟩,λn=>(c.ev n).bind λa=>(k a).ev n,λn b h p hp=>by
  cases d:c.ev n with
  |none=>rw[d]at h;cases h
  |some a=>rw[d]at h;exact⟨a,c.sound n a d _ rfl,(k a).sound n b h p hp⟩⟩
def next(c:Cq α)(k:α->Cq β):Cq β:=
 ⟨λp=>c.wp λa=>(k a).wp p,λh=>c.mono λa=>(k a).mono h,λn=>(c.ev n).bind λa=>(k a).ev n,λn b h p hp=>by
  cases d:c.ev n with
  |none=>rw[d]at h;cases h
  |some a=>rw[d]at h;exact c.sound n a d _ ((k a).sound n b h p hp)⟩
def é(p:Prop)[Decidable p](c:Cq α):Cq α:=⟨λq=>p/\c.wp q,λh ⟨d,h2⟩=>⟨d,c.mono h h2⟩,λn=>if p then c.ev n else none,λn a h q e=>by
 by_cases hp:p
 .rw[ą hp]at h;exact⟨hp,c.sound n a h q e⟩
 rw[ā hp]at h;cases h⟩
def qg{β:Type}(l:Ŀ β)(c d:Cq α):Cq α:=⟨λp=>(l=[]->c.wp p)/\d.wp p,λh ⟨a,h2⟩=>⟨λe=>c.mono h (a e),d.mono h h2⟩,λ_=>none,λ_ _ h=>by cases h⟩
def Γ(l:Ŀ α)(i:Int)(k:α->Cq β):Cq β:=⟨λp=>∃a,(0<=i/\l[i.toNat]?=some a)/\(k a).wp p,λh ⟨a,d,h2⟩=>⟨a,d,(k a).mono h h2⟩,
 λn=>if 0<=i then(l[i.toNat]?).bind λa=>(k a).ev n else none,λn b h p hp=>by
 by_cases hi:0<=i
 .rw[ą hi]at h
  cases c:l[i.toNat]? with
  |none=>rw[c]at h;cases h
  |some a=>rw[c]at h;exact⟨a,⟨hi,rfl⟩,(k a).sound n b h p hp⟩
 rw[ā hi]at h;cases h⟩
def any(q:α->Prop)(k:α->Cq β):Cq β:=⟨λp=>∀a,q a->(k a).wp p,λh c a d=>(k a).mono h (c a d),λ_=>none,λ_ _ h=>by cases h⟩
def nz(step:σ->Cq (σ⊕ρ))(n:Nat):Nat->σ->ŀ ρ
 |0,_=>none
 |k+1,s=>match(step s).ev n with
  |none=>none
  |some (.inr r)=>some r
  |some (.inl s')=>nz step n k s'
theorem QU(step:σ->Cq (σ⊕ρ))(n:Nat)(p:ρ->Prop):∀k s r,nz step n k s=some r->p r->∀A:σ->Prop,(∀s,(step s).wp (Out A p)->A s)->A s
 |0,_,_,h=>by cases h
 |k+1,s,r,h=>by
  intro hp A a;simp only[nz]at h;split at h
  .cases h
  .rename_i r' hr;simp only[Đ]at h;subst h;exact a s ((step s).sound n _ hr _ hp)
  rename_i s' c;exact a s ((step s).sound n _ c _ (QU step n p k s' r h hp A a))
def loop(step:σ->Cq (σ⊕ρ))(s:σ):Cq ρ:=⟨λp=>∀A:σ->Prop,(∀s,(step s).wp (Out A p)->A s)->A s,λh c A d=>c A λs e=>d s ((step s).mono (Out.mono (λ_ x=>x) h) e),
 λn=>nz step n n s,λn a h p hp=>QU step n p n s a h hp⟩
theorem Zt{step:σ->Cq (σ⊕ρ)}{s:σ}{p:ρ->Prop}(h:(step s).wp (Out (λs'=>(loop step s').wp p) p)):(loop step s).wp p:=
 λA a=>a s ((step s).mono (Out.mono (λs' h'=>h' A a) (λ_ x=>x)) h)
theorem Mb{step:σ->Cq (σ⊕ρ)}{p:ρ->Prop}(I:σ->Prop)(m:σ->Nat)(h:∀s,I s->(step s).wp (Out (λs'=>I s'/\m s'<m s) p)):∀s,I s->(loop step s).wp p:=by
 have key:∀n s,m s=n->I s->(loop step s).wp p:=by
  intro n;induction n using Nat.strongRecOn with
  |_ n d=>
   intro s e c;exact Zt ((step s).mono (Out.mono (λs' ⟨a,h2⟩=>d (m s') ŉ s' rfl a) (λ_ x=>x)) (h s c))
 exact λs=>key _ s rfl
theorem ω.mj{c:Cq α}{a:α}(n:Nat)(h:c.ev n=some a):c.ω a:=c.sound n a h _ rfl
theorem wp.pos{p:Prop}[Decidable p]{A B:Cq α}{q:α->Prop}(h:(if p then A else B).wp q)(hp:p):A.wp q:=by rwa [ą hp]at h
theorem wp.neg{p:Prop}[Decidable p]{A B:Cq α}{q:α->Prop}(h:(if p then A else B).wp q)(hp:¬p):B.wp q:=by rwa [ā hp]at h
theorem ω.pos{p:Prop}[Decidable p]{A B:Cq α}{r:α}(h:(if p then A else B).ω r)(hp:p):A.ω r:=by rwa [ą hp]at h
theorem wp.yes{p:Prop}[Decidable p]{A B:Cq α}{q:α->Prop}(hp:p)(h:A.wp q):(if p then A else B).wp q:=by rwa [ą hp]
theorem wp.no{p:Prop}[Decidable p]{A B:Cq α}{q:α->Prop}(hp:¬p)(h:B.wp q):(if p then A else B).wp q:=by rwa [ā hp]
end Cq
section
variable {P:Program}{N:Nat}{Q:ï}{fr:Fr}{S:Ξ}
def kg(P:Program)(c:Code)(Q:ï)(a:Act)(w:World):Prop:=
 ∀(b:Frame) (k:Ŀ Item) (cs:Ŀ Frame),∃e a' w',Q e a' w'/\Arrives P (lone (b.at a (.code c::.inLoop c::k)) cs w) b k cs e a' w'
theorem kg.fold{c:Code}{a:Act}{w:World}(h:c.wp P (Exit.then (kg P c Q) Q) a w):kg P c Q a w:=by
 intro b k cs;obtain⟨e,f,g,m,d⟩:=h b (.inLoop c::k) cs;cases e with
 |normal=>
  obtain⟨p,n,q,j,i⟩:=m b k cs;exact⟨p,n,q,j,.of_steps (Steps.trans d (.one step_inLoop)) i⟩
 |exit id=>exact⟨_,f,g,m,.pass (x:=.inLoop c) rfl (λ_ _=>.inl ß) d⟩
 |goto l=>exact⟨_,f,g,m,.pass (x:=.inLoop c) rfl (λ_ _=>.inl ß) d⟩
 |ret=>exact⟨_,f,g,m,.pass (x:=.inLoop c) rfl (λ_ _=>.inl ß) d⟩
 |panic r=>exact⟨_,f,g,m,.pass (x:=.inLoop c) rfl (λ_ _=>.inl ß) d⟩
 |outgrown=>exact⟨_,f,g,m,.pass (x:=.inLoop c) rfl (λ_ _=>.inl ß) d⟩
theorem kg.wp{c:Code}{a:Act}{w:World}(h:kg P c Q a w):(Code.loop c).wp P Q a w:=by intro b k cs;obtain⟨e,a',w',f,d⟩:=h b k cs;exact⟨e,a',w',f,.of_steps (.one step_loop) d⟩
def jv{X σ:Type}(N:Nat)(F:X->Fr)(H:X->Prop)(I:X->Ξ)(π:X->σ)(A:σ->Prop):Act->World->Prop:=λa w=>∃x',H x'/\A (π x')/\Rel N (F x') a/\I x' w
theorem WC.C0{c:Code}{X σ ρ:Type}{step:σ->Cq (σ⊕ρ)}{Φ:ρ->Prop}(π:X->σ)(F:X->Fr)(H:X->Prop)(I:X->Ξ)(d:X)(m:(Cq.loop step (π d)).wp Φ)(l:Fr.sub (F d) fr)(hH:H d)(f:∀w,S w->I d w)
  (round:∀(A:σ->Prop) x,H x->(step (π x)).wp (Out A Φ)->WC P N c (Exit.then (jv N F H I π A) Q) (F x) (I x)):WC P N (.loop c) Q fr S:=by
 have key:=m (λs=>∀x,π x=s->H x->∀a w,Rel N (F x) a->I x w->kg P c Q a w) (λs h x n hH a w g f=>by
  subst n;refine kg.fold (aaW (λe a' w' i=>?_) (round _ x hH h a w g f));cases e<;>first|exact i|skip
  obtain⟨x',j,h2,h3,k⟩:=i;exact h2 x' rfl j a' w' h3 k)
 exact λa w g h=>(key d rfl hH a w (g.weaken l) (f w h)).wp
theorem WE.vO{X σ:Type}{F:X->Fr}{H:X->Prop}{I:X->Ξ}{π:X->σ}{A:σ->Prop}(x':X)(a:A (π x'))(hH:H x')(c:Fr.sub (F x') fr)(d:∀w,S w->I x' w):WE N (Exit.then (jv N F H I π A) Q) .normal fr S:=
 λ_ w e f=>⟨x',hH,a,e.weaken c,d w f⟩
def mi{X:Type}(N:Nat)(F:X->Fr)(H:X->Prop)(I:X->Ξ):Act->World->Prop:=λa w=>∃x,H x/\Rel N (F x) a/\I x w
theorem WC.u2{X:Type}{x y:Code}(F:X->Fr)(H:X->Prop)(I:X->Ξ)(d:WC P N x (Exit.then (mi N F H I) Q) fr S)(h2:∀x,H x->WC P N y Q (F x) (I x)):WC P N (.seq x y) Q fr S:=
 λa w f g=>wp_seq (aaW (λe a' w' c=>by
  cases e<;>first|exact c|(obtain⟨x',h,i,j⟩:=c;exact h2 x' h a' w' i j)) (d a w f g))
theorem WE.jH{X:Type}{F:X->Fr}{H:X->Prop}{I:X->Ξ}(x:X)(hH:H x)(a:Fr.sub (F x) fr)(c:∀w,S w->I x w):WE N (Exit.then (mi N F H I) Q) .normal fr S:=λ_ w d e=>⟨x,hH,d.weaken a,c w e⟩
def ll{X:Type}(N:Nat)(F:X->Fr)(H:X->Prop)(I:X->Ξ)(Q:ï):ï:=λe a w=>match e with
 |.normal=>∃x,H x/\Rel N (F x) a/\I x w
 |e=>Q e a w
theorem WC.C4{X:Type}{x:Code}(F:X->Fr)(H:X->Prop)(I:X->Ξ)(d:WC P N x (ll N F H I Q) fr S)(h2:∀x,H x->WE N Q .normal (F x) (I x)):WC P N x Q fr S:=
 λa w f g=>aaW (λe a' w' c=>by
  cases e<;>first|exact c|(obtain⟨x',h,i,j⟩:=c;exact h2 x' h a' w' i j)) (d a w f g)
theorem WE.B8{X:Type}{F:X->Fr}{H:X->Prop}{I:X->Ξ}(x:X)(hH:H x)(a:Fr.sub (F x) fr)(c:∀w,S w->I x w):WE N (ll N F H I Q) .normal fr S:=λ_ w d e=>⟨x,hH,d.weaken a,c w e⟩
theorem WE.sp{X:Type}{F:X->Fr}{H:X->Prop}{I:X->Ξ}(h:WE N Q .ret fr S):WE N (ll N F H I Q) .ret fr S:=h
end
structure Rp (α:Type) where
 size:Nat
 er:Mem->Ŀ Value->α->Prop
 len:∀{G cs x},er G cs x->cs.length=size
 mono:∀{G G' cs x},Mem.le G G'->er G cs x->er G' cs x
 one:∀{G cs x},er G cs x->∀u∈cs,u.oneCell'=true
def Rp.int(k:IntKind):Rp Int:=⟨1,λ_ cs x=>cs=[.int k x],λh=>by rw[h];rfl,λ_ h=>h,λh u a=>by rw[h]at a;simp at a;subst a;rfl⟩
def Rp.bool:Rp Bool:=⟨1,λ_ cs x=>cs=[.bool x],λh=>by rw[h];rfl,λ_ h=>h,λh u a=>by rw[h]at a;simp at a;subst a;rfl⟩
def Rp.str:Rp Ĳ:=⟨1,λ_ cs x=>cs=[.string x],λh=>by rw[h];rfl,λ_ h=>h,λh u a=>by rw[h]at a;simp at a;subst a;rfl⟩
def õ{α:Type}(mk:α->Value)(n:Nat)(f:Fin n->α):Ŀ Value:=List.ofFn λi=>mk (f i)
abbrev jZ(k:IntKind)(n:Nat)(f:Fin n->Int):Ŀ Value:=õ (Value.int k) n f
section
variable {α:Type}(mk:α->Value) (n:Nat) (f:Fin n->α)
theorem xx:(õ mk n f).length=n:=by simp[õ]
theorem xK{i:Nat}(h:i<n):(õ mk n f)[i]?=some (mk (f ⟨i,h⟩)):=by simp[õ,h]
theorem y8(c:∀x,(mk x).oneCell'=true):∀u∈õ mk n f,u.oneCell'=true:=by intro u a;simp only[õ,List.mem_ofFn]at a;obtain⟨i,rfl⟩:=a;exact c _
end
def ε{α:Type}{n:Nat}(f:Fin n->α)(i:Nat)(x:α):Fin n->α:=λj=>if j.val=i then x else f j
def Ζ{α:Type}[Inhabited α]{n:Nat}(f:Fin n->α)(i:Int):α:=if h:i.toNat<n then f ⟨i.toNat,h⟩else default
theorem zt{α:Type}[Inhabited α]{n:Nat}(f:Fin n->α){i:Int}(h:i.toNat<n):Ζ f i=f ⟨i.toNat,h⟩:=by simp[Ζ,h]
theorem Uh{α:Type}(mk:α->Value)(n:Nat)(f:Fin n->α)(i:Nat)(x:α):(õ mk n f).set i (mk x)=õ mk n (ε f i x):=by
 apply abr
 .simp[õ]
 intro j a h2;simp only[õ,List.getElem_set,List.getElem_ofFn,ε];by_cases e:i=j
 .subst e;simp
 rw[ā e,ā (λe'=>e e'.symm)]
theorem tE{α:Type}[Inhabited α](mk:α->Value)(n:Nat)(f:Fin n->α){i:Int}(h:0<=i/\i<(n:Int)):(õ mk n f).toArray[i.toNat]?=some (mk (Ζ f i)):=by have hi:i.toNat<n:=ŉ;rw[zt f hi,Ġ,xK mk n f hi]
theorem vC{α:Type}(mk:α->Value)(n:Nat)(f:Fin n->α)(i:Nat)(x:α):(õ mk n f).toArray.setIfInBounds i (mk x)=(õ mk n (ε f i x)).toArray:=by rw[List.setIfInBounds_toArray,Uh]
def Rp.õ{α:Type}(mk:α->Value)(a:∀x,(mk x).oneCell'=true)(n:Nat):Rp (Fin n->α):=⟨n,λ_ cs f=>cs=EL.õ mk n f,λh=>by rw[h];exact xx _ _ _,λ_ h=>h,λh=>by rw[h];exact y8 _ _ _ a⟩
abbrev Rp.vec(k:IntKind)(n:Nat):Rp (Fin n->Int):=Rp.õ (Value.int k) (λ_=>rfl) n
abbrev Rp.DW(n:Nat):Rp (Fin n->Bool):=Rp.õ Value.bool (λ_=>rfl) n
def Rp.pair{α β:Type}(a:Rp α)(b:Rp β):Rp (α×β) where
 size:=a.size+b.size
 er G cs x:=∃c d,cs=c++d/\a.er G c x.1/\b.er G d x.2
 len:=by rintro G cs x ⟨c,d,rfl,e,h2⟩;rw[Ā,a.len e,b.len h2]
 mono:=by rintro G G' cs x f ⟨c,d,rfl,e,h2⟩;exact⟨c,d,rfl,a.mono f e,b.mono f h2⟩
 one:=by
  rintro G cs x ⟨c,d,rfl,e,h2⟩ u g;rcases Ħ.1 g with g|g
  .exact a.one e u g
  exact b.one h2 u g
def Rp.via{α β:Type}(a:Rp α)(f:β->α):Rp β:=⟨a.size,λG cs x=>a.er G cs (f x),a.len,a.mono,a.one⟩
def ÿ{α:Type}(r:Rp α)(G:Mem):Ŀ Value->Ŀ α->Prop
 |cs,[]=>cs=[]
 |cs,x::l=>∃c d,cs=c++d/\r.er G c x/\ÿ r G d l
namespace ÿ
variable {α:Type}{r:Rp α}{G G':Mem}
theorem len:∀{l:Ŀ α}{cs:Ŀ Value},ÿ r G cs l->cs.length=l.length*r.size
 |[],cs,h=>by simp only[ÿ]at h;simp[h]
 |x::l,cs,⟨c,d,e,a,h2⟩=>by have:=len h2;subst e;simp only[Ā,r.len a,this,Ę,ō];omega
theorem mono(a:Mem.le G G'):∀{l:Ŀ α}{cs:Ŀ Value},ÿ r G cs l->ÿ r G' cs l
 |[],_,h=>h
 |_::_,_,⟨c,d,e,f,h2⟩=>⟨c,d,e,r.mono a f,mono a h2⟩
theorem one:∀{l:Ŀ α}{cs:Ŀ Value},ÿ r G cs l->∀u∈cs,u.oneCell'=true
 |[],cs,h=>by simp only[ÿ]at h;simp[h]
 |_::_,_,⟨c,d,e,f,h2⟩=>by
  subst e;intro u a;rcases Ħ.1 a with a|a
  .exact r.one f u a
  exact one h2 u a
theorem single{x:α}{c:Ŀ Value}(h:r.er G c x):ÿ r G c [x]:=⟨c,[],ß,h,rfl⟩
theorem append:∀{l m:Ŀ α}{cs a:Ŀ Value},ÿ r G cs l->ÿ r G a m->ÿ r G (cs++a) (l++m)
 |[],m,cs,a,h,k=>by simp only[ÿ]at h;subst h;exact k
 |_::_,m,_,a,⟨c,d,e,f,h2⟩,k=>by subst e;exact⟨c,d++a,ß,f,append h2 k⟩
theorem get:∀{l:Ŀ α}{cs:Ŀ Value},ÿ r G cs l->∀{i:Nat}{x:α},l[i]?=some x->∃c,r.er G c x/\∀j u,c[j]?=some u->cs[i*r.size+j]?=some u
 |[],_,_,i,x,a=>by simp at a
 |y::l,_,⟨c,d,e,f,h2⟩,0,x,a=>by simp only[Ĵ,Đ]at a;subst a e;refine⟨c,f,λj u g=>?_⟩;rw[du,ņ,Ė (ċ.1 g).1];exact g
 |y::l,_,⟨c,d,e,f,h2⟩,i+1,x,a=>by simp only[ĭ]at a;subst e;obtain⟨c',h3,h⟩:=get h2 a;refine⟨c',h3,λj u g=>?_⟩;rw[ģ (by rw[r.len f,ō];omega)];rw[show(i+1)*r.size+j-c.length=i*r.size+j by rw[r.len f,ō];omega];exact h j u g
theorem split:∀{l m:Ŀ α}{cs:Ŀ Value},ÿ r G cs (l++m)->∃c d,cs=c++d/\ÿ r G c l/\ÿ r G d m
 |[],m,cs,h=>⟨[],cs,rfl,rfl,h⟩
 |x::l,m,_,⟨c,d,e,a,h2⟩=>by obtain⟨c',d',e',h3,f⟩:=split h2;exact⟨c++c',d',by rw[e,e',ď],⟨c,c',rfl,a,h3⟩,f⟩
end ÿ
def pb:ŀ Addr->Nat
 |some a=>a.block
 |none=>0
def po:ŀ Addr->Nat
 |some a=>a.off
 |none=>0
def Δ{α:Type}(r:Rp α)(G:Mem)(v:Value)(l:Ŀ α):Prop:=
 ∃p cap cs,v=.slice p l.length cap/\(l.length<=cap/\cap<=9223372036854775807)/\(∀a,p=some a->0<cap->a.spot=none)/\(0<l.length->p.isSome=true)/\ÿ r G cs l/\∀j u,cs[j]?=some u->G (pb p) (po p+j)=some u
theorem Δ.mono{α:Type}{r:Rp α}{G G':Mem}{v:Value}{l:Ŀ α}(h:Δ r G v l)(a:Mem.le G G'):Δ r G' v l:=by obtain⟨p,cap,cs,c,e,h2,h3,d,f⟩:=h;exact⟨p,cap,cs,c,e,h2,h3,d.mono a,λj u g=>a _ _ _ (f j u g)⟩
theorem Δ.nil{α:Type}(r:Rp α)(G:Mem):Δ r G (.slice none 0 0) []:=⟨none,0,[],rfl,ß,λ_ h=>(by cases h),λh=>(by simp at h),rfl,λj u h=>(by simp at h)⟩
theorem Δ.one{α:Type}{r:Rp α}{G:Mem}{v:Value}{l:Ŀ α}(h:Δ r G v l):v.oneCell'=true:=by obtain⟨p,cap,cs,a,_⟩:=h;rw[a];rfl
def Rp.sl{α:Type}(r:Rp α):Rp (Ŀ α):=⟨1,λG cs l=>∃v,cs=[v]/\Δ r G v l,λ⟨v,h,_⟩=>by rw[h];rfl,λa ⟨v,h,k⟩=>⟨v,h,k.mono a⟩,λ⟨v,h,k⟩ u c=>by rw[h]at c;simp at c;subst c;exact k.one⟩
section
variable {P:Program}{N:Nat}{Q:ï}{fr:Fr}{S:Ξ}{ops:Array Oper}{l:Ŀ Oper}{dst:ŀ Nat}{ty:TypeId}{pos:String}{af:Array Edge}{g:ŀ (Nat×Bool)}
variable {w0:Bs}{G0 G:Mem}{L:Lo}{α:Type}{r:Rp α}
theorem Y0.CW{x:Operand}{t e:TypeId}{v:Value}{xs:Ŀ α}(c:P.underlying t=some (.slice e))(h:Δ r G v xs)(d:fr.ev x=some v):Y0 P N ⟨dst,.call ⟨.builtin .len,#[x],#[t]⟩,ty,pos,af,g⟩ fr S (.int .i64 (xs.length:Int)):=by obtain⟨p,cap,cs,a,_⟩:=h;subst a;exact Y0.sF c d
def AtK(r:Rp α)(G:Mem)(K:Nat->Value->Prop)(o:Nat)(x:α):Prop:=∃c,r.er G c x/\∀j u,c[j]?=some u->K (o+j) u
abbrev At(r:Rp α)(G:Mem)(b o:Nat)(x:α):Prop:=AtK r G (λk u=>G b k=some u) o x
theorem At.mono{G':Mem}{b o:Nat}{x:α}(h:At r G b o x)(a:Mem.le G G'):At r G' b o x:=by obtain⟨c,d,h2⟩:=h;exact⟨c,r.mono a d,λj u e=>a _ _ _ (h2 j u e)⟩
theorem AtK.mono{G':Mem}{K:Nat->Value->Prop}{o:Nat}{x:α}(h:AtK r G K o x)(a:Mem.le G G'):AtK r G' K o x:=by obtain⟨c,d,h2⟩:=h;exact⟨c,r.mono a d,h2⟩
theorem Δ.at{p:ŀ Addr}{n cap:Nat}{xs:Ŀ α}(h:Δ r G (.slice p n cap) xs){i:Int}{x:α}(hi:0<=i/\xs[i.toNat]?=some x):At r G (pb p) (po p+i.toNat*r.size) x:=by obtain⟨p',e,cs,f,_,_,h3,g,k⟩:=h;cases f;obtain⟨c,a,d⟩:=g.get hi.2;exact⟨c,a,λj u l=>by rw[Ş];exact k _ _ (d j u l)⟩
theorem Y0.lS{t e:TypeId}{x y:Operand}{n cap sz:Nat}{p:ŀ Addr}{k:IntKind}{i:Int}{xs:Ŀ α}{z:α}(m:P.underlying t=some (.slice e))(c:(P.info? e).map (·.size)=some sz)(h:Δ r G (.slice p n cap) xs)
  (q:fr.ev x=some (.slice p n cap)) (s:fr.ev y=some (.int k i)) (hi:0<=i/\xs[i.toNat]?=some z):Y0 P N ⟨dst,.indexAddr t x y,ty,pos,af,g⟩ fr S (.pointer (some ⟨pb p,po p+i.toNat*sz,none⟩)):=by
 obtain⟨p',d,cs,j,f,h2,h3,B,C⟩:=h
 cases j
 have l:=(ċ.1 hi.2).1
 have hp:=h3 ŉ
 cases p with
 |none=>cases hp
 |some a=>
  obtain⟨u,v,A⟩:=a
  have:=h2 _ rfl ŉ
  dsimp only at this
  subst this
  exact Y0.sD m c q s ŉ
variable {K:Nat->Value->Prop}
theorem AtK.fst{β:Type}{q:Rp β}{o:Nat}{x:α×β}(h:AtK (Rp.pair r q) G K o x):AtK r G K o x.1:=by obtain⟨c,⟨d,f,rfl,e,h2⟩,h3⟩:=h;exact⟨d,e,λj u a=>h3 j u (by rw[Ė (ċ.1 a).1];exact a)⟩
theorem AtK.snd{β:Type}{q:Rp β}{o:Nat}{x:α×β}(h:AtK (Rp.pair r q) G K o x):AtK q G K (o+r.size) x.2:=by obtain⟨c,⟨f,d,rfl,a,h2⟩,h3⟩:=h;refine⟨d,h2,λj u e=>?_⟩;have:=h3 (r.size+j) u (by rw[ģ (by rw[r.len a];omega),r.len a,aat];exact e);rwa [<-Ş]at this
theorem AtK.via{β:Type}{f:β->α}{o:Nat}{x:β}(h:AtK (Rp.via r f) G K o x):AtK r G K o (f x):=h
theorem AtK.int{k:IntKind}{o:Nat}{x:Int}(h:AtK (Rp.int k) G K o x):K o (.int k x):=by obtain⟨c,a,h2⟩:=h;have a:c=[.int k x]:=a;subst a;exact h2 0 _ rfl
theorem AtK.bool{o:Nat}{x:Bool}(h:AtK Rp.bool G K o x):K o (.bool x):=by obtain⟨c,a,h2⟩:=h;have a:c=[.bool x]:=a;subst a;exact h2 0 _ rfl
theorem AtK.str{o:Nat}{x:Ĳ}(h:AtK Rp.str G K o x):K o (.string x):=by obtain⟨c,a,h2⟩:=h;have a:c=[.string x]:=a;subst a;exact h2 0 _ rfl
theorem AtK.sl{o:Nat}{x:Ŀ α}(h:AtK (Rp.sl r) G K o x):∃p cap,K o (.slice p x.length cap)/\Δ r G (.slice p x.length cap) x:=by obtain⟨c,⟨v,a,h3⟩,h2⟩:=h;subst a;have d:=h2 0 _ rfl;obtain⟨p,cap,cs,e,f⟩:=h3;subst e;exact⟨p,cap,d,p,cap,cs,rfl,f⟩
theorem AtK.vec{α:Type}{mk:α->Value}{d:∀x,(mk x).oneCell'=true}{n o:Nat}{x:Fin n->α}(h:AtK (Rp.õ mk d n) G K o x):∀j u,(EL.õ mk n x).toArray[j]?=some u->K (o+j) u:=by obtain⟨c,a,h2⟩:=h;have a:c=EL.õ mk n x:=a;subst a;intro j u e;exact h2 j u (by simpa using e)
theorem AtK.DV{α:Type}[Inhabited α]{mk:α->Value}{a:∀x,(mk x).oneCell'=true}{n o:Nat}{x:Fin n->α}(h:AtK (Rp.õ mk a n) G K o x){i:Int}(hi:0<=i/\i<(n:Int)):K (o+i.toNat) (mk (Ζ x i)):=
 h.vec _ _ (tE mk n x hi)
end
def Tok(size:Nat)(e:TypeId)(v:Value)(n:Nat):ŀ Ow->Prop
 |none=>∃p,v=.slice p n n
 |some x=>∃cap c,v=.slice (some ⟨x.b,0,none⟩) n cap/\x.o=.cells c e (0,0)/\x.m=n*size/\c.size=cap*size/\cap<=maxLen/\n<=cap
def jo(P:Program)(e:TypeId)(z:Value)(size bytes:Nat):Prop:=(P.info? e).map (λi=>(i.zero,i.size,i.bytes))=some (some z,size,bytes)
theorem jo.parts{P:Program}{e:TypeId}{z:Value}{size bytes:Nat}(h:jo P e z size bytes):∃i,P.info? e=some i/\i.zero=some z/\i.size=size/\i.bytes=bytes:=by
 unfold jo at h;cases hi:P.info? e with
 |none=>rw[hi]at h;cases h
 |some i=>rw[hi]at h;simp at h;exact⟨i,rfl,h.1,h.2.1,h.2.2⟩
def small:Nat:=1000000000
theorem Lo.UD{L:Lo}{i:Nat}{x y:ŀ Ow}:Lo.sub ((i,x)::L) ((i,x)::(i,y)::L):=by
 intro k z a;rw[Lo.Zp]at a⊢;split at a
 .rename_i e;rw[ą e];exact a
 rename_i e;rw[ā e,Lo.Zp,ā e];exact a
section
variable {P:Program}{N:Nat}{Q:ï}{fr:Fr}{S:Ξ}{ops:Array Oper}{l:Ŀ Oper}{dst:ŀ Nat}{ty:TypeId}{pos:String}{af:Array Edge}{g:ŀ (Nat×Bool)}
variable {w0:Bs}{G0 G:Mem}{L:Lo}{α:Type}{r:Rp α}
theorem Δ.form{v:Value}{xs:Ŀ α}(h:Δ r G v xs):∃p cap,v=.slice p xs.length cap:=by obtain⟨p,cap,cs,a,_⟩:=h;exact⟨p,cap,a⟩
theorem Mem.U5{b:Nat}{cs:Ŀ Value}{rest:Array Value}{j:Nat}{u:Value}{n:Nat}(c:cs.length=n)(h:cs[j]?=some u):Mem.row G b (cs.toArray++rest) 0 n b (0+j)=some u:=by have a:=(ċ.1 h).1;rw[ņ,Mem.zy (Ĝ _) ŉ,ň (by simpa using a)];simpa using h
theorem ZsN{t e:TypeId}{z:Value}{bytes m c:Nat}{xs ys:Ŀ α}{v:Value}{p:ŀ Addr}{id:Nat}{tk:ŀ Ow}(ty:TypeId)(W:P.underlying t=some (.slice e))(hE:jo P e z r.size bytes)(aH:z.cells.size=r.size)(ax:bytes<=100000)
  (hv:Δ r G v xs) (S:L.get id=tk) (h0:w0.L.get id=none) (E:Tok r.size e v xs.length tk) (hx:Δ r G (.slice p m c) ys) (aC:(xs++ys).length<=small)
  (w:World) (V:St w0 G0 G L w) :
  ∃R f G' w',(Builtin.append_ #[t,t] ty #[v,.slice p m c]).run P w=.ok R w'/\Mem.le G G'/\Δ r G' R (xs++ys)/\Tok r.size e R (xs++ys).length f/\St w0 G0 G' ((id,f)::L) w':=by
 obtain⟨i,hi,hz,I,aw⟩:=hE.parts
 obtain⟨px,aJ,g,ar,aK,aF,aG,aa,ac⟩:=hx
 simp only[Value.slice.injEq]at ar
 obtain⟨rfl,rfl,rfl⟩:=ar
 obtain⟨pv,cap,cs,aD,aE,an,X,Y,Z⟩:=hv
 subst aD
 have T:=aa.len
 have A:=Y.len
 simp only[Ā,small]at aC
 have U:xs.length+ys.length<=maxLen:=by simp only[maxLen];omega
 have J:ÿ r G (cs++g) (xs++ys):=Y.append aa
 have av:(xs.length+ys.length)*bytes<=140737488355328:=by have:(xs.length+ys.length)*bytes<=1000000000*100000:=aa3 ŉ ax;omega
 by_cases hm:ys.length=0
 .-- au is ad
  have hy:ys=[]:=Ŋ hm
  subst hy
  simp only[ĺ,ę]at *
  have ay:tk=none->xs.length=cap:=λe=>by subst e;obtain⟨q,hq⟩:=E;cases hq;rfl
  have ah:xs.length<=cap:=by
   cases tk with
   |none=>exact aaX (ay rfl)
   |some x=>obtain⟨d,c',F,_,_,_,_,h6⟩:=E;cases F;exact h6
  refine⟨_,tk,G,w,?_,Mem.le_refl G,⟨pv,cap,cs,rfl,aE,an,X,Y,Z⟩,E,V.weaken (Lo.Zi S (Lo.vB _))⟩
  cases B:pv with
  |none=>
   have:¬0<xs.length:=λh=>by have:=X h;rw[B]at this;cases this
   cases p with
   |none=>
    by_cases H:xs.length<=cap
    .simp[Builtin.append_,ē W,sizeOf,typeInfo,hi,Builtin.lenOf,Builtin.firstCells,show xs.length=0 by omega]
    omega
   |some a=>simp[Builtin.append_,ē W,sizeOf,typeInfo,hi,Builtin.lenOf,Builtin.firstCells,loadCells,loadCellsFrom,show xs.length=0 by omega]
  |some a=>
   cases p with
   |none=>simp[Builtin.append_,ē W,sizeOf,typeInfo,hi,Builtin.lenOf,Builtin.firstCells,ah,storeCells]
   |some a=>simp[Builtin.append_,ē W,sizeOf,typeInfo,hi,Builtin.lenOf,Builtin.firstCells,ah,storeCells,loadCells,loadCellsFrom]
 have hp:=aG ŉ
 obtain⟨pa,az⟩:=ek.1 hp
 subst az
 obtain⟨sb,so,ss⟩:=pa
 have al:=aF _ rfl ŉ
 dsimp only at al
 subst al
 have ac:∀j u,g[j]?=some u->G sb (so+j)=some u:=ac
 have D:∀j u,g[j]?=some u->w.cell? ((⟨sb,so,none⟩:Addr).add j)=some u:=λj u y=>by rw[oy];exact V.jj _ _ _ (ac j u y)
 have Q:=aa.one
 have C:g.length=ys.length*i.size:=by rw[I];exact T
 have O:cs.length=xs.length*i.size:=by rw[I];exact A
 have aI:∀(d:Nat),xs.length+ys.length<=d->d<=maxLen->∃f G',Mem.le G G'/\Δ r G' (.slice (some ⟨w.heap.size,0,none⟩) (xs.length+ys.length) d) (xs++ys)/\Tok r.size e (.slice (some ⟨w.heap.size,0,none⟩) (xs.length+ys.length) d) (xs++ys).length f/\
   St w0 G0 G' ((id,f)::L) (w.drew.alloc (.cells ((cs++g).toArray++Builtin.zeroCells z.cells (d-(xs.length+ys.length))) e)):=by
  intro d F h2
  have aA:St w0 G0 G L w.drew:=V.drew
  have h3:=aA.push id (.cells ((cs++g).toArray++Builtin.zeroCells z.cells (d-(xs.length+ys.length))) e)
  obtain⟨h4,h5⟩:=h3.qW (i:=id) (n:=(xs.length+ys.length)*r.size) (by rw[Lo.Zp,ą rfl]) h0 (Ĝ _)
  have N:(cs++g).length=(xs.length+ys.length)*r.size:=by rw[Ā,A,T,ō]
  refine⟨_,_,h5,⟨_,_,cs++g,by rw[Ā],by rw[Ā];simp only[maxLen]at h2;omega,λa ha _=>by cases ha;rfl,λ_=>rfl,J.mono h5,λj u y=>Mem.U5 N y⟩,?_,h4.weaken Lo.UD⟩
  refine⟨d,_,by rw[Ā];rfl,rfl,by rw[Ā],?_,h2,by rw[Ā];exact F⟩
  simp only[aaA,Į,N,aa4,aH,<-ō]
  congr 1;omega
 have grow:∀(hg:cap<xs.length+ys.length),∃R f G' w',(Builtin.append_ #[t,t] ty #[.slice pv xs.length cap,.slice (some ⟨sb,so,none⟩) ys.length c]).run P w=.ok R w'/\Mem.le G G'/\Δ r G' R (xs++ys)/\Tok r.size e R (xs++ys).length f/\St w0 G0 G' ((id,f)::L) w':=by
  intro hg;have ae:=grownCap_ge w (xs.length+ys.length) cap e;have ai:=aa5 w (xs.length+ys.length) cap e U;obtain⟨f,G',k1,k2,k3,k4⟩:=aI _ ae ai;refine⟨_,f,G',_,?_,k1,k2,k3,k4⟩;have ak:=Src.ofSlice (P:=P) w (size:=i.size) W ⟨sb,so,none⟩ ys.length c g C D Q;have aj:(Builtin.firstCells i.size xs.length (.slice pv xs.length cap)).run P w.drew=.ok cs.toArray w.drew:=by
   cases B:pv with
   |none=>
    have:¬0<xs.length:=λh=>by have:=X h;rw[B]at this;cases this
    have H:cs=[]:=Ŋ (by rw[A,show xs.length=0 by omega,du]);rw[H];exact aaV _ _ _ _ _
   |some a=>
    rcases aa6 xs.length with aq|aq
    .subst B;have H:cs=[]:=Ŋ (by rw[A,aq,du]);exact aal _ _ _ _ _ _ _ O (λj u y=>by rw[H]at y;simp at y)
    have ha:=an a B ŉ;obtain⟨ab,ao,ap⟩:=a;dsimp only at ha;subst ha;subst B;exact aal _ _ _ _ _ _ _ O (λj u y=>by rw[oy];exact V.drew.jj _ _ _ (Z j u y))
  have:=run_append_grow_src (P:=P) w t t ty e i z W hi hz pv xs.length cap cs aj _ ys.length g ak hg ŉ (growslice_fits hg (by rw[aw];exact av));exact this
 cases tk with
 |none=>
  obtain⟨q,hq⟩:=E
  cases hq
  exact grow ŉ
 |some x=>
  obtain⟨d,c',F,h2,h3,h4,h5,h6⟩:=E
  cases F
  by_cases s:xs.length+ys.length<=cap
  .obtain⟨xb,xo,xm⟩:=x
   dsimp only at h2 h3
   subst h2 h3
   have l:=(V.loc id _ S).1
   dsimp only at l
   have K:xs.length*i.size+g.length<=c'.size:=by rw[C,h4,I,<-ō];exact ec _ s
   have hr:=run_append_room (P:=P) w t ty e i W hi xb xs.length cap c' l ⟨sb,so,none⟩ ys.length c g C D Q s K
   rw[I]at hr K
   have aB:(c'.toList.take (xs.length*r.size)++g++c'.toList.drop (xs.length*r.size+g.length)).length=c'.size:=by simp only[Ā,Č,ľ,ł];omega
   have am:=V.rJ (w':=w.setRow xb (c'.toList.take (xs.length*r.size)++g++c'.toList.drop (xs.length*r.size+g.length)).toArray) (o':=.cells (c'.toList.take (xs.length*r.size)++g++c'.toList.drop (xs.length*r.size+g.length)).toArray e (0,0)) S (by simp[World.setRow,ĩ,l]) (Ċ _)
    (λk R hk mf=>by
     have F:=V.jj _ _ _ mf;dsimp only at F hk;rw[ŵ w xb k c' e (0,0) l]at F;rw[ŵ _ xb k _ e (0,0) (by simp[World.setRow,ĩ,l];rfl)];rw[Ġ,Ė (by simp only[Č,ł];omega),Ŏ,ą hk];simpa using F)
    (λk hk=>by
     simp only[World.setRow,ĩ];rw[ā (λe=>hk e.symm)]) rfl rfl rfl rfl (by simp[World.setRow])
   obtain⟨h7,h8⟩:=am.qW (i:=id) (n:=(xs.length+ys.length)*r.size) (by rw[Lo.Zp,if_pos rfl]) h0 (by dsimp only;rw[Nat.add_mul];omega)
   refine⟨_,_,_,_,hr,h8,⟨_,_,cs++g,by rw[Ā],by rw[Ā];simp only[maxLen]at h5;omega,λa ha _=>by cases ha;rfl,λ_=>rfl,J.mono h8,λj u y=>?_⟩,?_,h7.weaken Lo.UD⟩
   .by_cases hj:j<cs.length
    .rw[Ė hj]at y
     exact h8 _ _ _ (Z j u y)
    have ag:j<(cs++g).length:=(ċ.1 y).1
    rw[Ā]at ag
    rw[ģ ŉ]at y
    show Mem.row G xb _ _ _ xb (0+j)=some u
    rw[Nat.zero_add,Mem.zy (by dsimp only;rw[<-A];omega) (by rw[Nat.add_mul,<-A,<-T];exact ag)]
    rw[Ġ,ď,ģ (by simp only[Č,ł];omega),Ė (by simp only[Č,ł];omega)]
    rw[<-y]
    congr 1
    simp only[Č,ł]
    omega
   exact⟨cap,_,by rw[Ā],rfl,by rw[Ā],by rw[Į,aB,h4],h5,by rw[Ā];exact s⟩
  exact grow ŉ
theorem WL.pM{t e:TypeId}{z:Value}{s x:Operand}{bytes m c:Nat}{v:Value}{xs ys:Ŀ α}{p:ŀ Addr}{tk:ŀ Ow}(id:Nat)(F:ξ ops fr ⟨dst,.call ⟨.builtin .append,#[s,x],#[t,t]⟩,ty,pos,af,g⟩ true)(E:Ω N dst)
  (I:P.underlying t=some (.slice e)) (D:jo P e z r.size bytes) (B:z.cells.size=r.size) (q:bytes<=100000) (H:fr.ev s=some v) (K:fr.ev x=some (.slice p m c)) (J:Δ r G v xs) (u:L.get id=tk) (C:w0.L.get id=none) (A:Tok r.size e v xs.length tk)
  (O:Δ r G (.slice p m c) ys) (y:(xs++ys).length<=small)
  (k:∀p' f d G',Mem.le G G'->Δ r G' (.slice p' (xs++ys).length f) (xs++ys)->Tok r.size e (.slice p' (xs++ys).length f) (xs++ys).length d->WL P N ops Q l (θ dst (.slice p' (xs++ys).length f) fr) (St w0 G0 G' ((id,d)::L))) :
  WL P N ops Q (⟨dst,.call ⟨.builtin .append,#[s,x],#[t,t]⟩,ty,pos,af,g⟩::l) fr (St w0 G0 G L):=by
 refine WL.yr (Φ:=λi w=>∃d G',Mem.le G G'/\Δ r G' i (xs++ys)/\Tok r.size e i (xs++ys).length d/\St w0 G0 G' ((id,d)::L) w) F (λa w h oH=>?_) E (λv a w h ⟨d,G',j,h2,h3,n⟩=>?_)
 .obtain⟨i,d,G',w',hr,j,h2,h3,n⟩:=ZsN (w0:=w0) (G0:=G0) ty I D B q J u C A O y w oH
  have:(execOp a.eval ⟨dst,.call ⟨.builtin .append,#[s,x],#[t,t]⟩,ty,pos,af,g⟩).run P w=.ok (.value i) w':=by simp[execOp,resolve,invoke,builtin,h.ev H,h.ev K,hr]
  rw[this]
  exact⟨d,G',j,h2,h3,n⟩
 obtain⟨p',f,rfl⟩:=h2.form
 exact k p' f d G' j h2 h3 a w h n
theorem WL.qY{t e:TypeId}{len:Nat}{parts:Array (Nat×Operand)}{vs:Array (Nat×Value)}{cs:Ŀ Value}(xs:Ŀ α)(R:ξ ops fr ⟨dst,.buildSlice t len parts,ty,pos,af,g⟩ true)(O:Ω N dst)
  (B:fr.iy (parts.toList.map (·.2))=some (vs.toList.map (·.2))) (d:parts.toList.map (·.1)=vs.toList.map (·.1)) (c:xs.length=len) (F:len<=small)
  (h:∀w,(Instr.buildSlice t len vs).run P w=.ok (.slice (some ⟨w.heap.size,0,none⟩) len len) (w.alloc (.cells cs.toArray e))) (f:ÿ r G cs xs) {key:Nat}(y:L.get key=none) (K:w0.L.get key=none)
  (k:∀p G',Mem.le G G'->Δ r G' (.slice p len len) xs->WL P N ops Q l (θ dst (.slice p len len) fr) (St w0 G0 G' L)):WL P N ops Q (⟨dst,.buildSlice t len parts,ty,pos,af,g⟩::l) fr (St w0 G0 G L):=by
 refine WL.yr (Φ:=λv w=>∃p G',v=.slice p len len/\Mem.le G G'/\Δ r G' (.slice p len len) xs/\St w0 G0 G' L w) R (λa w s S=>?_) O (λv a w s ⟨p,G',m,h2,h3,D⟩=>?_)
 .have m:=s.iy _ _ B
  have h2:(parts.map λp=>(p.1,a.eval p.2))=vs:=by
   apply ź;simp only[aaJ];have J:parts.toList.length=vs.toList.length:=by have:=Ē List.length d;simpa using this
   generalize parts.toList=ps at *;generalize vs.toList=C at *;clear h B;induction ps generalizing C with
   |nil=>cases C<;>simp_all
   |cons p ps U=>
    cases C with
    |nil=>simp at J
    |cons q C=>
     simp only[ġ,Œ]at d m⊢;exact⟨abV d.1 m.1,U C d.2 m.2 (by simpa using J)⟩
  have h3:(parts.map λ(i,x)=>(i,a.eval x))=vs:=h2
  have:(execOp a.eval ⟨dst,.buildSlice t len parts,ty,pos,af,g⟩).run P w=.ok (.value (.slice (some ⟨w.heap.size,0,none⟩) len len)) (w.alloc (.cells cs.toArray e)):=by simp only[execOp,h3];simp[h w]
  rw[this]
  have E:=f.len
  obtain⟨D,I⟩:=(S.push key (.cells cs.toArray e)).qW (i:=key) (n:=len*r.size) (by rw[Lo.Zp,ą rfl]) K (Ĝ _)
  refine⟨_,_,rfl,I,⟨_,_,cs,by rw[c],by rw[c];simp only[small]at F;omega,λa s _=>by cases s;rfl,λ_=>rfl,f.mono I,λj u T=>?_⟩,D.weaken (λi x H=>?_)⟩
  .have:=Mem.U5 (G:=G) (b:=w.heap.size) (rest:=#[]) (n:=len*r.size) (by rw[E,c]) T
   rw[Array.append_empty]at this
   exact this
  have A:key≠i:=λe=>by subst e;rw[y]at H;cases H
  rw[Lo.Zp,ā A,Lo.Zp,ā A]
  exact H
 subst m
 exact k p G' h2 h3 a w s D
theorem Tok.full{size:Nat}{e:TypeId}{p:ŀ Addr}{n:Nat}:Tok size e (.slice p n n) n none:=⟨p,rfl⟩
theorem Δ.take{p:ŀ Addr}{n cap:Nat}{xs:Ŀ α}{lo hi:Nat}(h:Δ r G (.slice p n cap) xs)(E:lo<=hi)(h2:hi<=xs.length){q:ŀ Addr}{c:Nat}(d:q=p.map (λa=>⟨a.block,a.off+lo*r.size,none⟩)\/(lo=hi/\q=p/\c<=cap))(H:hi-lo<=c/\c<=9223372036854775807):Δ r G (.slice q (hi-lo) c) ((xs.take hi).drop lo):=by
 obtain⟨p',m,cs,B,h3,F,s,t,h7⟩:=h;cases B;have x:((xs.take hi).drop lo).length=hi-lo:=ab0;by_cases v:lo=hi
 .subst v;have:(xs.take lo).drop lo=[]:=by apply Ŋ;omega
  rw[this,aaY];exact⟨q,c,[],rfl,ab0,λa e I=>by
   rcases d with d|⟨_,d,J⟩
   .cases p with
    |none=>rw[d]at e;cases e
    |some b=>rw[d]at e;cases e;rfl
   rw[d]at e;exact F a e ŉ,λh=>by simp at h,rfl,λj u h=>by simp at h⟩
 have d:=d.resolve_right (λh=>v h.1);have l:xs=xs.take lo++((xs.take hi).drop lo++xs.drop hi):=by have:xs.take hi=(xs.take hi).take lo++(xs.take hi).drop lo:=(Ņ lo (xs.take hi)).symm;rw[List.take_take,Ż E]at this;rw[<-ď,<-this,Ņ]
 rw[l]at t;obtain⟨L,d1,C,K,k2⟩:=t.split;obtain⟨A,d2,D,k3,N⟩:=k2.split;have f:=K.len;have g:(xs.take lo).length=lo:=ab0;refine⟨q,c,A,by rw[x],by rw[x];exact H,λa e _=>?_,λh=>?_,k3,λj u y=>?_⟩
 .cases p with
  |none=>rw[d]at e;cases e
  |some b=>rw[d]at e;cases e;rfl
 .have:=s ŉ;rw[d];simpa using this
 have i:=(ċ.1 y).1;have:=h7 (lo*r.size+j) u (by
  subst C D;rw[ģ (by rw[f,g];omega),f,g,aat,Ė i];exact y)
 have k:=s ŉ;cases p with
 |none=>cases k
 |some b=>
  subst d;simp only[pb,po,Ğ]at this⊢;rw[Ş];exact this
end
theorem Zz{α:Type}(mk:α->Value)(n:Nat)(f:Fin n->α):(õ mk n f).toArray.size=n:=by simp[xx]
theorem M6(b:Bool):b=decide (b=true):=by cases b<;>rfl
section
variable {P:Program}{N:Nat}{Q:ï}{fr:Fr}{S:Ξ}{ops:Array Oper}{l:Ŀ Oper}{dst:ŀ Nat}{ty:TypeId}{pos:String}{af:Array Edge}{g:ŀ (Nat×Bool)}
variable {w0:Bs}{G0 G:Mem}{L:Lo}{α:Type}{r:Rp α}
theorem Y0.Cm{t e:TypeId}{x y:Operand}{len b off:Nat}{k:IntKind}{i:Int}(c:P.underlying t=some (.array len e))(a:(P.info? e).map (·.size)=some 1)
  (d:fr.ev x=some (.pointer (some ⟨b,off,none⟩))) (f:fr.ev y=some (.int k i)) (hi:0<=i/\i<len):Y0 P N ⟨dst,.indexAddr t x y,ty,pos,af,g⟩ fr S (.pointer (some ⟨b,off+i.toNat,none⟩)):=
 (Y0.nu c a d f hi).eq ß
theorem Y0.jD{t e:TypeId}{x y:Operand}{len b:Nat}{k:IntKind}{i:Int}(c:P.underlying t=some (.array len e))(a:(P.info? e).map (·.size)=some 1)
  (d:fr.ev x=some (.pointer (some ⟨b,0,none⟩))) (f:fr.ev y=some (.int k i)) (hi:0<=i/\i<len):Y0 P N ⟨dst,.indexAddr t x y,ty,pos,af,g⟩ fr S (.pointer (some ⟨b,i.toNat,none⟩)):=
 (Y0.nu c a d f hi).eq ß
theorem Y0.yh{s:TypeId}{x:Operand}{f n:Nat}{fs:Array Field}{d:Field}{cs c:Array Value}(j:P.underlying s=some (.struct fs))(i:fs[f]?=some d)(h:fq P d.type n)
  (l:fr.ev x=some (.agg cs)) (k:cs.extract d.offset (d.offset+n)=c):Y0 P N ⟨dst,.field s x f,ty,pos,af,g⟩ fr S (.agg c):=λa w e _=>by
 subst k
 simp[execOp,e.ev l,Instr.field,ē j,i,asAgg,QQ h]
theorem Y0.CX{x:Operand}{t:TypeId}{s:Ĳ}(d:P.underlying t=some .string)(e:fr.ev x=some (.string s)):Y0 P N ⟨dst,.call ⟨.builtin .len,#[x],#[t]⟩,ty,pos,af,g⟩ fr S (.int .i64 (s.size:Int)):=λa w c _=>by simp[execOp,resolve,invoke,builtin,c.ev e,Builtin.len_,ē d,goInt]
theorem PE{e:TypeId}{k:IntKind}(q:P.underlying e=some (.int k))(p:è P e)(m:P.cellsOf e=1){n:Nat}(a b:Fin n->Int)(w:World)(d:Nat):∀(f:Ŀ Nat),(∀i,i∈f->i<n)->
  (Op.eqItems (d+1) e (P.cellsOf e) (jZ k n a).toArray (jZ k n b).toArray f).run P w=.ok (decide (∀i:Fin n,i.val∈f->a i=b i)) w
 |[],_=>by simp[Op.eqItems]
 |i::f,h=>by
  have hi:i<n:=h i ß;have t:=PE q p m a b w d f (λj l=>h j (by simp[l]));have p1:(part e (jZ k n a).toArray (i*P.cellsOf e)).run P w=.ok (.int k (a ⟨i,hi⟩)) w:=Ek p (by rw[m,lv,Ġ];exact xK _ n a hi) w;have p2:(part e (jZ k n b).toArray (i*P.cellsOf e)).run P w=.ok (.int k (b ⟨i,hi⟩)) w:=Ek p (by rw[m,lv,Ġ];exact xK _ n b hi) w;have p3:=run_equalIn_int (P:=P) w d e k k (a ⟨i,hi⟩) (b ⟨i,hi⟩) q;simp only[Op.eqItems,abz,p1,p2,p3,aaC];by_cases c:a ⟨i,hi⟩=b ⟨i,hi⟩
  .simp only[c,beq_self_eq_true,Bool.not_true,Ŝ,aaN,t];congr 1;apply ũ.2;constructor
   .intro g j l;rcases Ď.1 l with e|e
    .have:j=⟨i,hi⟩:=abh e;rw[this];exact c
    exact g j e
   exact λg j l=>g j (by simp[l])
  have r:(a ⟨i,hi⟩ == b ⟨i,hi⟩)=false:=by simpa using c
  have s:decide (∀j:Fin n,j.val∈i::f->a j=b j)=false:=Ĉ λg=>c (g ⟨i,hi⟩ ß);rw[s];simp[r]
instance alH {n:Nat}:DecidableEq (Fin n->Int):=λa b=>decidable_of_iff (∀i,a i=b i) ⟨λh=>funext h,λh i=>by rw[h]⟩
theorem Qa{t e:TypeId}{k:IntKind}{n:Nat}(m:P.underlying t=some (.array n e))(g:P.underlying e=some (.int k))(l:è P e)(c:(P.info? e).map (·.size)=some 1)(a b:Fin n->Int)(w:World):
  (Op.equal t (.agg (jZ k n a).toArray) (.agg (jZ k n b).toArray)).run P w=.ok (decide (a=b)) w:=by
 cases hi:P.info? e with
 |none=>simp[hi]at c
 |some i=>
  have f:P.cellsOf e=1:=by simp[Program.cellsOf,c]
  have d:=run_equalIn_array (P:=P) w 9999 (jZ k n a).toArray (jZ k n b).toArray m hi
  have h2:=PE g l f a b w 9998 (List.range n) ß
  unfold Op.equal
  show(Op.equalIn (9999+1) t _ _).run P w=_
  rw[d,h2]
  congr 1
  apply ũ.2
  constructor
  .intro h;funext j;exact h j ß
  intro h j _;rw[h]
theorem Y0.Nr{t e yt:TypeId}{x y:Operand}{k:IntKind}{n:Nat}{a b:Fin n->Int}(h:P.underlying t=some (.array n e))(d:P.underlying e=some (.int k))(f:è P e)(l:(P.info? e).map (·.size)=some 1)(c:P.eqGuardType P.depth t=false)
  (i:fr.ev x=some (.agg (jZ k n a).toArray)) (j:fr.ev y=some (.agg (jZ k n b).toArray)):Y0 P N ⟨dst,.binOp .eql t x y yt,ty,pos,af,g⟩ fr S (.bool (decide (a=b))):=
 Y0.bin i j (λw=>run_eqGuard_agg w _ _ _ _ _ _ c) λw=>by simp[binOp,Qa h d f l]
theorem Y0.Oz{t e yt:TypeId}{x y:Operand}{k:IntKind}{n:Nat}{a b:Fin n->Int}(h:P.underlying t=some (.array n e))(d:P.underlying e=some (.int k))(f:è P e)(l:(P.info? e).map (·.size)=some 1)(c:P.eqGuardType P.depth t=false)
  (i:fr.ev x=some (.agg (jZ k n a).toArray)) (j:fr.ev y=some (.agg (jZ k n b).toArray)):Y0 P N ⟨dst,.binOp .neq t x y yt,ty,pos,af,g⟩ fr S (.bool (decide (¬a=b))):=
 Y0.bin i j (λw=>run_eqGuard_agg w _ _ _ _ _ _ c) λw=>by simp[binOp,Qa h d f l]
theorem Zxz{t e:TypeId}{p:ŀ Addr}{n c:Nat}(a:P.underlying t=some (.slice e))(w:World):(Op.equal t (.slice p n c) (.slice none 0 0)).run P w=.ok (decide (p=none)) w:=by
 have h:∀d,(Op.equalIn (d+1) t (.slice p n c) (.slice none 0 0)).run P w=.ok (decide (p=none)) w:=λd=>by cases p<;>simp[Op.equalIn,ē a]
 exact h 9999
theorem Y0.sx{t e yt:TypeId}{x y:Operand}{p:ŀ Addr}{n c:Nat}(a:P.underlying t=some (.slice e))(d:fr.ev x=some (.slice p n c))(f:fr.ev y=some (.slice none 0 0)):Y0 P N ⟨dst,.binOp .eql t x y yt,ty,pos,af,g⟩ fr S (.bool (decide (p=none))):=
 Y0.bin d f (λw=>by simp[eqGuard]) λw=>by simp[binOp,Zxz a]
theorem Δ.VY{p:ŀ Addr}{n c:Nat}{xs:Ŀ α}(h:Δ r G (.slice p n c) xs)(hp:p=none):xs=[]:=by
 obtain⟨p',cap,cs,a,_,_,h3,_⟩:=h;cases a;subst hp;rcases aa6 xs.length with h|h
 .exact Ŋ h
 have:=h3 h;cases this
theorem Zv4{t e:TypeId}{n cap sz:Nat}{p:ŀ Addr}{xs:Ŀ α}(x:P.underlying t=some (.slice e))(m:(P.info? e).map (·.size)=some sz)(l:sz=r.size)(h:Δ r G (.slice p n cap) xs){low high:ŀ Value}{lo hi:Int}
  (j:low=none/\lo=0\/∃k,low=some (.int k lo)) (i:high=none/\hi=(xs.length:Int)\/∃k,high=some (.int k hi)) (C:0<=lo/\lo<=hi/\hi<=(xs.length:Int)) (w:World) :
  ∃v,(Instr.slice t (.slice p n cap) low high none).run P w=.ok v w/\Δ r G v ((xs.take hi.toNat).drop lo.toNat):=by
 have u:n=xs.length:=by obtain⟨p',d,cs,c,_⟩:=h;cases c;rfl
 have s:n<=cap/\cap<=9223372036854775807:=by obtain⟨p',d,cs,c,h2,_⟩:=h;cases c;exact h2
 have f:∀a,p=some a->0<cap->a.spot=none:=by obtain⟨p',d,cs,c,_,h2,_⟩:=h;cases c;exact h2
 have g:(Instr.sliceBounds true n cap low high none).run P w=.ok (lo.toNat,hi.toNat,cap) w:=by
  rcases j with ⟨rfl,rfl⟩|⟨k,rfl⟩<;>rcases i with ⟨rfl,rfl⟩|⟨k',rfl⟩
  .simp[Instr.sliceBounds,u]
  .have c:0<=hi/\hi<=(cap:Int):=ŉ;simp[Instr.sliceBounds,Instr.sliceBound,asIntOf,c]
  .have c:0<=lo/\lo<=(n:Int):=ŉ;simp[Instr.sliceBounds,Instr.sliceBound,asIntOf,c,u];intro h;omega
  have c:0<=hi/\hi<=(cap:Int):=ŉ;have h2:0<=lo/\lo<=((hi.toNat:Nat):Int):=ŉ;simp[Instr.sliceBounds,Instr.sliceBound,asIntOf,c,h2];intro h;omega
 refine⟨.slice (if cap=lo.toNat then p else p.map (·.add (lo.toNat*sz))) (hi.toNat-lo.toNat) (cap-lo.toNat),?_,?_⟩
 .simp[Instr.slice,ē x,g,run_sizeOf m]
 refine h.take ŉ ŉ ?_ ŉ
 by_cases q:cap=lo.toNat
 .right
  rw[ą q]
  exact⟨ŉ,rfl,ŉ⟩
 left
 rw[ā q]
 cases p with
 |none=>rfl
 |some a=>
  obtain⟨y,A,B⟩:=a
  have:=f _ rfl ŉ
  dsimp only at this
  subst this
  simp only[Ğ,oy,l]
theorem WL.s6{t e:TypeId}{x:Operand}{f c:ŀ Operand}{low high:ŀ Value}{n cap sz:Nat}{p:ŀ Addr}{xs:Ŀ α}{lo hi:Int}(C:ξ ops fr ⟨dst,.slice t x f c none,ty,pos,af,g⟩ true)(B:Ω N dst)
  (y:P.underlying t=some (.slice e)) (u:(P.info? e).map (·.size)=some sz) (s:sz=r.size) (h:Δ r G (.slice p n cap) xs) (I:fr.ev x=some (.slice p n cap))
  (E:∀a,Rel N fr a->f.map a.eval=low) (D:∀a,Rel N fr a->c.map a.eval=high)
  (q:low=none/\lo=0\/∃k,low=some (.int k lo)) (m:high=none/\hi=(xs.length:Int)\/∃k,high=some (.int k hi)) (A:0<=lo/\lo<=hi/\hi<=(xs.length:Int))
  (k:∀p' d,Δ r G (.slice p' ((xs.take hi.toNat).drop lo.toNat).length d) ((xs.take hi.toNat).drop lo.toNat)->WL P N ops Q l (θ dst (.slice p' ((xs.take hi.toNat).drop lo.toNat).length d) fr) (St w0 G0 G L)) :
  WL P N ops Q (⟨dst,.slice t x f c none,ty,pos,af,g⟩::l) fr (St w0 G0 G L):=by
 refine WL.yr (Φ:=λv w=>Δ r G v ((xs.take hi.toNat).drop lo.toNat)/\St w0 G0 G L w) C (λa w i F=>?_) B (λv a w i ⟨j,h2⟩=>?_)
 .obtain⟨v,hr,H⟩:=Zv4 y u s h q m A w
  have:(execOp a.eval ⟨dst,.slice t x f c none,ty,pos,af,g⟩).run P w=.ok (.value v) w:=by have j:=E a i;have h2:=D a i;simp only[execOp,i.ev I,j,h2,ŗ];simp[Instr.sliceAt,ē y,hr]
  rw[this]
  exact⟨H,F⟩
 obtain⟨p',d,rfl⟩:=j.form
 exact k p' d j a w i h2
theorem WL.u3{t e:TypeId}{x i:Operand}{m:IntKind}{n cap sz:Nat}{p:ŀ Addr}{xs:Ŀ α}{lo:Int}(v:ξ ops fr ⟨dst,.slice t x (some i) none none,ty,pos,af,g⟩ true)(u:Ω N dst)
  (y:P.underlying t=some (.slice e)) (f:(P.info? e).map (·.size)=some sz) (d:sz=r.size) (h:Δ r G (.slice p n cap) xs) (A:fr.ev x=some (.slice p n cap)) (q:fr.ev i=some (.int m lo)) (s:0<=lo/\lo<=(xs.length:Int)/\(xs.length:Int)<=(xs.length:Int))
  (k:∀p' c,Δ r G (.slice p' ((xs.take (xs.length:Int).toNat).drop lo.toNat).length c) ((xs.take (xs.length:Int).toNat).drop lo.toNat)->WL P N ops Q l (θ dst (.slice p' ((xs.take (xs.length:Int).toNat).drop lo.toNat).length c) fr) (St w0 G0 G L)) :
  WL P N ops Q (⟨dst,.slice t x (some i) none none,ty,pos,af,g⟩::l) fr (St w0 G0 G L):=
 WL.s6 (low:=some (.int m lo)) (high:=none) v u y f d h A (λa j=>by simp[j.ev q]) (λa j=>rfl) (.inr ⟨_,rfl⟩) (.inl ⟨rfl,rfl⟩) s k
theorem WL.qw{t e:TypeId}{x i:Operand}{k2:IntKind}{n cap sz:Nat}{p:ŀ Addr}{xs:Ŀ α}{hi:Int}(s:ξ ops fr ⟨dst,.slice t x none (some i) none,ty,pos,af,g⟩ true)(q:Ω N dst)
  (u:P.underlying t=some (.slice e)) (f:(P.info? e).map (·.size)=some sz) (d:sz=r.size) (h:Δ r G (.slice p n cap) xs) (v:fr.ev x=some (.slice p n cap)) (h2:fr.ev i=some (.int k2 hi)) (m:0<=(0:Int)/\(0:Int)<=hi/\hi<=(xs.length:Int))
  (k:∀p' c,Δ r G (.slice p' ((xs.take hi.toNat).drop (0:Int).toNat).length c) ((xs.take hi.toNat).drop (0:Int).toNat)->WL P N ops Q l (θ dst (.slice p' ((xs.take hi.toNat).drop (0:Int).toNat).length c) fr) (St w0 G0 G L)) :
  WL P N ops Q (⟨dst,.slice t x none (some i) none,ty,pos,af,g⟩::l) fr (St w0 G0 G L):=
 WL.s6 (low:=none) (high:=some (.int k2 hi)) s q u f d h v (λa j=>rfl) (λa j=>by simp[j.ev h2]) (.inl ⟨rfl,rfl⟩) (.inr ⟨_,rfl⟩) m k
end
end Go.EL

namespace Go.EL
open Go.IntKind (i8 i16 i32 i64 u8 u16 u32 u64)
open Go Go.RowKit Go.Proofs
def mK(tk:ŀ Ow)(o:Nat)(u:Value):Prop:=∃b c e m,tk=some ⟨b,.cells c e (0,0),m⟩/\c[o]?=some u
def Β{α:Type}(r:Rp α)(e:TypeId)(G:Mem)(v:Value)(xs:Ŀ α):ŀ Ow->Prop
 |none=>xs=[]/\∃p,v=.slice p 0 0/\∀a,p=some a->(0:Nat)<0->a.spot=none
 |some x=>∃cap cs rest,v=.slice (some ⟨x.b,0,none⟩) xs.length cap/\x.o=.cells (cs++rest).toArray e (0,0)/\x.m=0/\ÿ r G cs xs/\(cs++rest).length=cap*r.size/\cap<=maxLen/\xs.length<=cap
section
variable {w0:Bs}{G0 G:Mem}{L:Lo}{α:Type}{r:Rp α}{e:TypeId}
theorem Β.form{v:Value}{xs:Ŀ α}{tk:ŀ Ow}(h:Β r e G v xs tk):∃p cap,v=.slice p xs.length cap:=by
 cases tk with
 |none=>obtain⟨rfl,p,h,_⟩:=h;exact⟨p,0,h⟩
 |some x=>obtain⟨cap,cs,rest,h,_⟩:=h;exact⟨_,cap,h⟩
theorem Β.mono{G':Mem}{v:Value}{xs:Ŀ α}{tk:ŀ Ow}(h:Β r e G v xs tk)(a:Mem.le G G'):Β r e G' v xs tk:=by
 cases tk with
 |none=>exact h
 |some x=>obtain⟨cap,cs,rest,c,h2,h3,d,f⟩:=h;exact⟨cap,cs,rest,c,h2,h3,d.mono a,f⟩
theorem Β.nil:Β r e G (.slice none 0 0) [] none:=⟨rfl,none,rfl,λ_ h=>by cases h⟩
theorem Β.at{p:ŀ Addr}{n cap:Nat}{xs:Ŀ α}{tk:ŀ Ow}(h:Β r e G (.slice p n cap) xs tk){i:Int}{x:α}(hi:0<=i/\xs[i.toNat]?=some x):AtK r G (mK tk) (i.toNat*r.size) x:=by
 cases tk with
 |none=>obtain⟨rfl,_⟩:=h;simp at hi
 |some y=>
  obtain⟨f,cs,rest,m,h2,h3,g,q,_⟩:=h;obtain⟨c,a,d⟩:=g.get hi.2;obtain⟨l,t,s⟩:=y;dsimp only at h2 h3;subst h2 h3;refine⟨c,a,λj u k=>⟨l,_,e,0,rfl,?_⟩⟩;have:=d j u k;rw[Ġ,Ė (ċ.1 this).1];exact this
theorem Β.block{p:ŀ Addr}{n cap:Nat}{xs:Ŀ α}{x:Ow}(h:Β r e G (.slice p n cap) xs (some x)):pb p=x.b/\po p=0:=by obtain⟨a,cs,rest,c,_⟩:=h;cases c;exact⟨rfl,rfl⟩
theorem St.tp{i b m:Nat}{o:Obj}{w:World}(h:St w0 G0 G ((i,some ⟨b,o,m⟩)::L) w)(g:∀k,G b k=none):St w0 G0 G ((i,some ⟨b,o,0⟩)::L) w:=by
 have hi:Lo.get ((i,some ⟨b,o,m⟩)::L) i=some ⟨b,o,m⟩:=by rw[Lo.Zp,ą rfl]
 obtain⟨p,q,r⟩:=h.loc i _ hi;have key:∀j y,Lo.get ((i,some ⟨b,o,0⟩)::L) j=some y->∃y',Lo.get ((i,some ⟨b,o,m⟩)::L) j=some y'/\y'.b=y.b:=by
  intro j y a;rw[Lo.Zp]at a⊢;split at a
  .rename_i e;rw[ą e];cases a;exact⟨_,rfl,rfl⟩
  rename_i e;rw[ā e];exact⟨y,a,rfl⟩
 refine{ h with loc:=λj y a=>?_,Ú:=λj k y z c d f=>?_ }
 .rw[Lo.Zp]at a;split at a
  .rename_i e;subst e;cases a;exact⟨p,q,λk _=>g k⟩
  rename_i e;exact h.loc j y (by rw[Lo.Zp,ā e];exact a)
 obtain⟨y',l,k2⟩:=key j y d;obtain⟨z',k3,n⟩:=key k z f;rw[<-k2,<-n];exact h.Ú j k y' z' c l k3
theorem Β.freeze{v:Value}{xs:Ŀ α}{tk:ŀ Ow}{key:Nat}(h:Β r e G v xs tk)(c:L.get key=tk)(A:w0.L.get key=none){w:World}(f:St w0 G0 G L w):
  ∃G' d,Mem.le G G'/\Δ r G' v xs/\Tok r.size e v xs.length d/\St w0 G0 G' ((key,d)::L) w/\(∀Gx L' w',Mem.le G Gx->Mem.le G' Gx->St w0 G0 Gx ((key,d)::L') w'->St w0 G0 G ((key,tk)::L') w'):=by
 cases tk with
 |none=>
  obtain⟨rfl,p,rfl,hp⟩:=h
  exact⟨G,none,Mem.le_refl _,⟨p,0,[],rfl,ß,hp,λh=>by simp at h,rfl,λj u h=>by simp at h⟩,⟨p,rfl⟩,f.weaken (Lo.Zi c (Lo.vB _)),λGx L' w' B _ h2=>h2.eI f.base B⟩
 |some x=>
  obtain⟨cap,cs,rest,rfl,h2,h3,l,C,m,h7⟩:=h
  obtain⟨g,J,I⟩:=x
  dsimp only at h2 h3
  subst h2 h3
  have E:=l.len
  obtain⟨F,k2⟩:=f.qW (i:=key) (n:=xs.length*r.size) c A (Ĝ _)
  refine⟨_,some ⟨g,.cells (cs++rest).toArray e (0,0),xs.length*r.size⟩,k2,⟨_,cap,cs,rfl,by simp only[maxLen]at m;omega,λa D _=>by cases D;rfl,λ_=>rfl,l.mono k2,λj u s=>?_⟩,⟨cap,_,rfl,rfl,rfl,by simpa using C,m,h7⟩,F,λGx L' w' t H y=>?_⟩
  .have q:=(ċ.1 s).1
   show Mem.row G g _ 0 _ g (0+j)=some u
   rw[ņ,Mem.zy (Ĝ _) (by rw[<-E];exact q),Ġ,Ė q]
   exact s
  exact(y.eI f.base t).tp (λk=>(f.loc key _ c).2.2 k (Ĝ _))
end
section
variable {P:Program}{N:Nat}{Q:ï}{fr:Fr}{S:Ξ}{ops:Array Oper}{l:Ŀ Oper}{dst:ŀ Nat}{ty:TypeId}{pos:String}{af:Array Edge}{g:ŀ (Nat×Bool)}
variable {w0:Bs}{G0 G:Mem}{L:Lo}{α:Type}{r:Rp α}{e:TypeId}
theorem WL.eO{v:Value}{xs:Ŀ α}{tk:ŀ Ow}(key:Nat)(h:Β r e G v xs tk)(d:L.get key=tk)(f:w0.L.get key=none)
  (k:∀c G',Mem.le G G'->Δ r G' v xs->Tok r.size e v xs.length c->WL P N ops Q l fr (St w0 G0 G' ((key,c)::L))):WL P N ops Q l fr (St w0 G0 G L):=λa w j m=>by
 obtain⟨G',c,g,h2,h3,i,_⟩:=h.freeze d f m
 exact k c G' g h2 h3 a w j i
theorem WE.eO{x:Exit}{v:Value}{xs:Ŀ α}{tk:ŀ Ow}(key:Nat)(h:Β r e G v xs tk)(d:L.get key=tk)(f:w0.L.get key=none)
  (k:∀c G',Mem.le G G'->Δ r G' v xs->Tok r.size e v xs.length c->WE N Q x fr (St w0 G0 G' ((key,c)::L))):WE N Q x fr (St w0 G0 G L):=λa w j l=>by
 obtain⟨G',c,g,h2,h3,i,_⟩:=h.freeze d f l
 exact k c G' g h2 h3 a w j i
theorem WC.eO{x:Code}{v:Value}{xs:Ŀ α}{tk:ŀ Ow}(key:Nat)(h:Β r e G v xs tk)(d:L.get key=tk)(f:w0.L.get key=none)
  (k:∀c G',Mem.le G G'->Δ r G' v xs->Tok r.size e v xs.length c->WC P N x Q fr (St w0 G0 G' ((key,c)::L))):WC P N x Q fr (St w0 G0 G L):=λa w j l=>by
 obtain⟨G',c,g,h2,h3,i,_⟩:=h.freeze d f l
 exact k c G' g h2 h3 a w j i
theorem Y0.nv{x:Operand}{t e':TypeId}{v:Value}{xs:Ŀ α}{tk:ŀ Ow}(a:P.underlying t=some (.slice e'))(h:Β r e G v xs tk)(c:fr.ev x=some v):Y0 P N ⟨dst,.call ⟨.builtin .len,#[x],#[t]⟩,ty,pos,af,g⟩ fr S (.int .i64 (xs.length:Int)):=by obtain⟨p,cap,rfl⟩:=h.form;exact Y0.sF a c
theorem Y0.gT{t e':TypeId}{x y:Operand}{n cap sz:Nat}{p:ŀ Addr}{k:IntKind}{i:Int}{xs:Ŀ α}{z:α}{tk:ŀ Ow}(j:P.underlying t=some (.slice e'))(a:(P.info? e').map (·.size)=some sz)(h:Β r e G (.slice p n cap) xs tk)
  (l:fr.ev x=some (.slice p n cap)) (m:fr.ev y=some (.int k i)) (hi:0<=i/\xs[i.toNat]?=some z):Y0 P N ⟨dst,.indexAddr t x y,ty,pos,af,g⟩ fr S (.pointer (some ⟨pb p,i.toNat*sz,none⟩)):=by
 cases tk with
 |none=>obtain⟨rfl,_⟩:=h;simp at hi
 |some q=>
  obtain⟨c,cs,rest,d,_⟩:=h
  cases d
  have f:=(ċ.1 hi.2).1
  exact(Y0.sD j a l m ŉ).eq (by simp[pb])
theorem Y0.loadT{t:TypeId}{x:Operand}{p:ŀ Addr}{n cap off key:Nat}{v:Value}{xs:Ŀ α}{tk:ŀ Ow}(i:è P t)(h:Β r e G (.slice p n cap) xs tk)(a:L.get key=tk)(d:fr.ev x=some (.pointer (some ⟨pb p,off,none⟩)))
  (j:mK tk off v):Y0 P N ⟨dst,.load t x,ty,pos,af,g⟩ fr (St w0 G0 G L) v:=by
 obtain⟨b,c,e',m,rfl,f⟩:=j
 rw[h.block.1]at d
 exact Y0.î key i d a f
theorem Y0.sG{t:TypeId}{x:Operand}{p:ŀ Addr}{n cap off key sz:Nat}(vs:Array Value){xs:Ŀ α}{tk:ŀ Ow}(l:fq P t sz)(h:Β r e G (.slice p n cap) xs tk)(a:L.get key=tk)(f:fr.ev x=some (.pointer (some ⟨pb p,off,none⟩)))
  (k:vs.size=sz) (C:0<sz) (d:∀j u,vs[j]?=some u->mK tk (off+j) u):Y0 P N ⟨dst,.load t x,ty,pos,af,g⟩ fr (St w0 G0 G L) (.agg vs):=by
 have i:=d 0 _ (Ō ŉ)
 obtain⟨b,c,e',m,rfl,D⟩:=i
 rw[h.block.1]at f
 exact Y0.ny vs key l f a k (λj u q=>by
  obtain⟨y,A,B,E,s,v⟩:=d j u q;cases s;exact v)
theorem WL.storeT{t:TypeId}{x y:Operand}{p:ŀ Addr}{n cap sz:Nat}{val:Value}{cs':Ŀ Value}{i:Int}{xs:Ŀ α}{z z':α}{tk:ŀ Ow}(key:Nat)(Z:ξ ops fr ⟨none,.store t x y,ty,pos,af,g⟩ true)(ht:(P.info? t).map (·.size)=some sz)(f:sz=r.size)
  (h:Β r e G (.slice p n cap) xs tk) (u:L.get key=tk) (hx:fr.ev x=some (.pointer (some ⟨pb p,i.toNat*sz,none⟩))) (hy:fr.ev y=some val) (A:val.cells=cs'.toArray) (d:r.er G cs' z') (hi:0<=i/\xs[i.toNat]?=some z)
  (k:∀B,Β r e G (.slice p n cap) (xs.set i.toNat z') B->WL P N ops Q l fr (St w0 G0 G ((key,B)::L))):WL P N ops Q (⟨none,.store t x y,ty,pos,af,g⟩::l) fr (St w0 G0 G L):=by
 cases tk with
 |none=>obtain⟨rfl,_⟩:=h;simp at hi
 |some q=>
  obtain⟨J,cs,rest,W,h2,h3,D,X,Y,h7⟩:=h
  cases W
  obtain⟨qb,qo,qm⟩:=q
  dsimp only at h2 h3
  subst h2 h3
  have v:=(ċ.1 hi.2).1
  have F:xs=xs.take i.toNat++(xs[i.toNat]::xs.drop (i.toNat+1)):=ß
  have s:=D.len
  rw[F]at D
  obtain⟨c,d1,U,S,k2⟩:=D.split
  obtain⟨C,d2,V,k3,k4⟩:=k2
  have T:=S.len
  have l2:=r.len k3
  have I:=r.len d
  have H:(xs.take i.toNat).length=i.toNat:=ab0
  rw[H]at T
  have m:ÿ r G (c++(cs'++d2)) (xs.set i.toNat z'):=by rw[Ŭ,ą v];exact S.append ⟨cs',d2,rfl,d,k4⟩
  have j:((cs++rest).take (i.toNat*sz)++cs'++(cs++rest).drop (i.toNat*sz+sz))=(c++(cs'++d2))++rest:=by
   subst U V;rw[f,<-T];have t1:(c++(C++d2)++rest).take c.length=c:=by rw[ď];exact abQ
   have t2:(c++(C++d2)++rest).drop (c.length+r.size)=d2++rest:=by
    rw[<-l2];have:c++(C++d2)++rest=(c++C)++(d2++rest):=by simp only[ď]
    rw[this,<-Ā];exact aa7
   rw[t1,t2];simp only[ď]
  have qe:fr.ev x=some (.pointer (some ⟨qb,i.toNat*sz,none⟩)):=hx
  refine WL.H4 (S':=St w0 G0 G ((key,some ⟨qb,.cells ((c++(cs'++d2))++rest).toArray e (0,0),0⟩)::L)) Z (λa w K R=>?_) (k _ ?_)
  .have O:=(R.loc key _ u).1
   have hr:=abi P qb (i.toNat*sz) e cs' 0 (cs++rest).toArray w O (by
    simp only[Į];rw[Ā,s,I,<-f];have:(i.toNat+1)*sz<=xs.length*sz:=ec _ v;rw[ō]at this;omega) (r.one d)
   simp only[dV]at hr
   rw[I,<-f]at hr
   rw[j]at hr
   refine⟨w.setRow qb ((c++(cs'++d2))++rest).toArray,?_,R.rJ u ?_ (Ċ _) (λk _ E _=>absurd E (ĵ k)) (λk E=>?_) rfl rfl rfl rfl (by simp[World.setRow])⟩
   .simp[execOp,K.ev qe,K.ev hy,Instr.storeAt,Instr.sureAddr,storeVar,A,run_sizeOf ht,I,f,hr]
    rw[f]at hr
    simp[hr]
   .simp[World.setRow,ĩ,O]
   simp only[World.setRow,ĩ]
   rw[ā (λe=>E e.symm)]
  refine⟨cap,c++(cs'++d2),rest,ß,rfl,rfl,m,?_,Y,by simpa using h7⟩
  rw[Ā,m.len,ħ,<-X,Ā,s]
theorem QP{t:TypeId}{z:Value}{bytes m c:Nat}{xs ys:Ŀ α}{v:Value}{p:ŀ Addr}{id:Nat}{tk:ŀ Ow}(ty:TypeId)(A:P.underlying t=some (.slice e))(hE:jo P e z r.size bytes)(ak:z.cells.size=r.size)(ac:bytes<=100000)
  (f:Β r e G v xs tk) (D:L.get id=tk) (hx:Δ r G (.slice p m c) ys) (ag:(xs++ys).length<=small)
  (w:World) (T:St w0 G0 G L w) :
  ∃Z y w',(Builtin.append_ #[t,t] ty #[v,.slice p m c]).run P w=.ok Z w'/\Β r e G Z (xs++ys) y/\St w0 G0 G ((id,y)::L) w':=by
 obtain⟨i,hi,hz,x,ab⟩:=hE.parts
 obtain⟨px,al,d,W,am,ah,ai,B,F⟩:=hx
 simp only[Value.slice.injEq]at W
 obtain⟨rfl,rfl,rfl⟩:=W
 have Q:=B.len
 simp only[Ā,small]at ag
 have E:xs.length+ys.length<=maxLen:=by simp only[maxLen];omega
 have aa:(xs.length+ys.length)*bytes<=140737488355328:=by have:(xs.length+ys.length)*bytes<=1000000000*100000:=aa3 ŉ ac;omega
 by_cases hm:ys.length=0
 .have hy:ys=[]:=Ŋ hm
  subst hy
  simp only[ĺ,ę]at *
  refine⟨v,tk,w,?_,f,T.weaken (Lo.Zi D (Lo.vB _))⟩
  cases tk with
  |none=>
   obtain⟨rfl,q,rfl,_⟩:=f
   cases q with
   |none=>cases p with
    |none=>simp[Builtin.append_,ē A,sizeOf,typeInfo,hi,Builtin.lenOf,Builtin.firstCells]
    |some a=>simp[Builtin.append_,ē A,sizeOf,typeInfo,hi,Builtin.lenOf,Builtin.firstCells,loadCells,loadCellsFrom]
   |some a'=>cases p with
    |none=>simp[Builtin.append_,ē A,sizeOf,typeInfo,hi,Builtin.lenOf,Builtin.firstCells,storeCells]
    |some a=>simp[Builtin.append_,ē A,sizeOf,typeInfo,hi,Builtin.lenOf,Builtin.firstCells,storeCells,loadCells,loadCellsFrom]
  |some q=>
   obtain⟨cap,cs,rest,rfl,_,_,_,_,_,K⟩:=f
   cases p with
   |none=>simp[Builtin.append_,ē A,sizeOf,typeInfo,hi,Builtin.lenOf,Builtin.firstCells,K,storeCells]
   |some a=>simp[Builtin.append_,ē A,sizeOf,typeInfo,hi,Builtin.lenOf,Builtin.firstCells,K,storeCells,loadCells,loadCellsFrom]
 have hp:=ai ŉ
 obtain⟨pa,ad⟩:=ek.1 hp
 subst ad
 obtain⟨X,Y,ss⟩:=pa
 have V:=ah _ rfl ŉ
 dsimp only at V
 subst V
 have F:∀j u,d[j]?=some u->G X (Y+j)=some u:=F
 have s:∀j u,d[j]?=some u->w.cell? ((⟨X,Y,none⟩:Addr).add j)=some u:=λj u H=>by rw[oy];exact T.jj _ _ _ (F j u H)
 have C:=B.one
 have n:d.length=ys.length*i.size:=by rw[x];exact Q
 have grow:∀(pv:ŀ Addr) (cap:Nat) (cs:Ŀ Value),ÿ r G cs xs->(Builtin.firstCells i.size xs.length (.slice pv xs.length cap)).run P w.drew=.ok cs.toArray w.drew->cap<xs.length+ys.length->
   ∃Z y w',(Builtin.append_ #[t,t] ty #[.slice pv xs.length cap,.slice (some ⟨X,Y,none⟩) ys.length c]).run P w=.ok Z w'/\Β r e G Z (xs++ys) y/\St w0 G0 G ((id,y)::L) w':=by
  intro pv cap cs J S hg
  have I:=grownCap_ge w (xs.length+ys.length) cap e
  have R:=aa5 w (xs.length+ys.length) cap e E
  have U:=Src.ofSlice (P:=P) w (size:=i.size) A ⟨X,Y,none⟩ ys.length c d n s C
  have hr:=run_append_grow_src (P:=P) w t t ty e i z A hi hz pv xs.length cap cs S _ ys.length d U hg ŉ (growslice_fits hg (by rw[ab];exact aa))
  have ae:St w0 G0 G L w.drew:=T.drew
  have h3:=ae.push id (.cells ((cs++d).toArray++Builtin.zeroCells z.cells (grownCap w (xs.length+ys.length) cap e-(xs.length+ys.length))) e)
  have N:(cs++d).length=(xs.length+ys.length)*r.size:=by rw[Ā,J.len,Q,ō]
  refine⟨_,some ⟨w.drew.heap.size,.cells ((cs++d).toArray++Builtin.zeroCells z.cells (grownCap w (xs.length+ys.length) cap e-(xs.length+ys.length))) e (0,0),0⟩,_,hr,?_,h3⟩
  refine⟨grownCap w (xs.length+ys.length) cap e,cs++d,(Builtin.zeroCells z.cells (grownCap w (xs.length+ys.length) cap e-(xs.length+ys.length))).toList,by rw[Ā];rfl,?_,rfl,J.append B,?_,R,by rw[Ā];exact I⟩
  .dsimp only
   congr 1
   apply ź
   simp
  have aj:(Builtin.zeroCells z.cells (grownCap w (xs.length+ys.length) cap e-(xs.length+ys.length))).toList.length=(grownCap w (xs.length+ys.length) cap e-(xs.length+ys.length))*r.size:=by rw[ł (xs:=Builtin.zeroCells z.cells _),aa4,ak]
  rw[Ā,N,aj,<-ō]
  congr 1;omega
 cases tk with
 |none=>
  obtain⟨rfl,q,rfl,hq⟩:=f
  refine grow q 0 [] rfl ?_ ab0
  cases q with
  |none=>exact aaV _ _ _ _ _
  |some a=>exact aal _ _ _ _ _ _ _ ß (λj u H=>by simp at H)
 |some q=>
  obtain⟨cap,cs,rest,rfl,h2,h3,h4,h5,h6,h7⟩:=f
  obtain⟨qb,qo,qm⟩:=q
  dsimp only at h2 h3
  subst h2 h3
  have h:=(T.loc id _ D).1
  dsimp only at h
  have O:=h4.len
  by_cases g:xs.length+ys.length<=cap
  .have l:xs.length*i.size+d.length<=(cs++rest).toArray.size:=by
    rw[Į,h5,n,x,<-ō];exact ec _ g
   have hr:=run_append_room (P:=P) w t ty e i A hi qb xs.length cap (cs++rest).toArray h ⟨X,Y,none⟩ ys.length c d n s C g l
   rw[x,<-O]at hr
   have e1:(cs++rest).toArray.toList.take cs.length=cs:=ß
   have e2:(cs++rest).toArray.toList.drop (cs.length+d.length)=rest.drop d.length:=ß
   rw[e1,e2]at hr
   refine⟨_,some ⟨qb,.cells ((cs++d)++rest.drop d.length).toArray e (0,0),0⟩,_,hr,?_,T.rJ D (by simp[World.setRow,ĩ,h]) (Ċ _) (λk _ hk _=>absurd hk (ĵ k)) (λk hk=>?_) rfl rfl rfl rfl (by simp[World.setRow])⟩
   .refine⟨cap,cs++d,rest.drop d.length,by rw[Ā],rfl,rfl,h4.append B,?_,h6,by rw[Ā];exact g⟩
    rw[x]at l n
    simp only[Į]at l
    rw[Ā]at h5 l
    simp only[Ā,ľ]
    omega
   simp only[World.setRow,ĩ]
   rw[ā (λe=>hk e.symm)]
  refine grow _ cap cs h4 (aal _ _ _ _ _ _ _ (by rw[O,x]) (λj u H=>?_)) ŉ
  rw[oy]
  have oZ:w.drew.heap[qb]?=some (.cells (cs++rest).toArray e (0,0)):=h
  rw[ŵ w.drew qb (0+j) _ e (0,0) oZ,ņ,Ġ,Ė (ċ.1 H).1]
  exact H
theorem WL.hM{t:TypeId}{z:Value}{s x:Operand}{bytes m c:Nat}{v:Value}{xs ys:Ŀ α}{p:ŀ Addr}{tk:ŀ Ow}(id:Nat)(C:ξ ops fr ⟨dst,.call ⟨.builtin .append,#[s,x],#[t,t]⟩,ty,pos,af,g⟩ true)(B:Ω N dst)
  (E:P.underlying t=some (.slice e)) (A:jo P e z r.size bytes) (u:z.cells.size=r.size) (j:bytes<=100000) (D:fr.ev s=some v) (H:fr.ev x=some (.slice p m c)) (F:Β r e G v xs tk) (n:L.get id=tk)
  (I:Δ r G (.slice p m c) ys) (q:(xs++ys).length<=small)
  (k:∀p' f d,Β r e G (.slice p' (xs++ys).length f) (xs++ys) d->WL P N ops Q l (θ dst (.slice p' (xs++ys).length f) fr) (St w0 G0 G ((id,d)::L))) :
  WL P N ops Q (⟨dst,.call ⟨.builtin .append,#[s,x],#[t,t]⟩,ty,pos,af,g⟩::l) fr (St w0 G0 G L):=by
 refine WL.yr (Φ:=λy w=>∃d,Β r e G y (xs++ys) d/\St w0 G0 G ((id,d)::L) w) C (λa w h oH=>?_) B (λv a w h ⟨d,h2,i⟩=>?_)
 .obtain⟨y,d,w',hr,h2,i⟩:=QP (w0:=w0) (G0:=G0) ty E A u j F n I q w oH
  have:(execOp a.eval ⟨dst,.call ⟨.builtin .append,#[s,x],#[t,t]⟩,ty,pos,af,g⟩).run P w=.ok (.value y) w':=by simp[execOp,resolve,invoke,builtin,h.ev D,h.ev H,hr]
  rw[this]
  exact⟨d,h2,i⟩
 obtain⟨p',f,rfl⟩:=h2.form
 exact k p' f d h2 a w h i
end
section
variable {P:Program}{N:Nat}{Q:ï}{fr:Fr}{S:Ξ}{ops:Array Oper}{l:Ŀ Oper}{dst:ŀ Nat}{ty:TypeId}{pos:String}{af:Array Edge}{g:ŀ (Nat×Bool)}
variable {w0:Bs}{G0 G:Mem}{L:Lo}{α:Type}{r:Rp α}{e:TypeId}
theorem Lo.Fb:∀{a:Lo}{i:Nat}{x:Ow},a.get i=some x->i∈a.map (·.1)
 |[],i,x,h=>by simp[Lo.get]at h
 |p::a,i,x,h=>by
  obtain⟨k,q⟩:=p;rw[Lo.Zp]at h;split at h
  .rename_i e;simp[e]
  have:=Lo.Fb h;simp only[ġ,Ď];exact .inr this
def Lo.zero(L:Lo):Prop:=∀p∈L,∀x,p.2=some x->x.m=0
theorem Lo.Bu:∀{L:Lo}{i:Nat}{x:Ow},L.zero->L.get i=some x->x.m=0
 |[],i,x,_,h=>by simp[Lo.get]at h
 |p::L,i,x,a,h=>by
  obtain⟨k,q⟩:=p;rw[Lo.Zp]at h;split at h
  .exact a (k,q) ß x h
  exact Lo.Bu (L:=L) (λp hp=>a p (by simp[hp])) h
theorem YC.D2{o:Oper}{f:FuncId}{args c:Array Value}{j:Lo}{pre:Mem->Prop}{post:Mem->Value->Prop}(h:YC P N o fr (St w0 G0 G L) f c)(C:eR P f args j pre (λG L' v=>L'=j/\post G v))(e:c=args)(hp:pre G)
  (n:Lo.sub j L) (d:∀i,i∈j.map (·.1)->j.get i=L.get i) (t:w0.L.zero) :
  YR P N o fr (St w0 G0 G L) (λv w'=>∃G',Mem.le G G'/\St w0 G0 G' L w'/\post G' v):=λa w q m=>by
 rw[h a w q m]
 subst e
 refine(C w G (m.hp n) hp).mono λe' w' ⟨r,G',L',A,p,B,q4⟩=>⟨r,A,G',p.le,?_,q4⟩
 subst B
 refine m.ext (R:=L.gn (L'.map (·.1))) p n (λi x g=>(Lo.AD g).1) (λi x g=>?_) (λi x y hi _ z tQ=>?_) (λi x g=>?_)
 .cases s:L'.get i with
  |none=>rfl
  |some y=>exact absurd (Lo.Fb s) (Lo.AD g).2
 .rw[Lo.Bu t tQ];exact Ĝ _
 by_cases hi:i∈L'.map (·.1)
 .left;rw[d i hi];exact g
 right
 have:∀(ks:Ŀ Nat),i ∉ ks->(L.gn ks).get i=L.get i:=by
  intro ks;induction ks with
  |nil=>intro _;rfl
  |cons k ks u=>
   intro l;simp only[Ď,not_or]at l;simp only[Lo.gn,ġ,Ļ];rw[Lo.Zp,ā (λe=>l.1 e.symm)];exact u l.2
 rw[this _ hi];exact g
theorem WL.lN{op:Op}{f:FuncId}{args c:Array Value}{j:Lo}{pre:Mem->Prop}{post:Mem->Value->Prop}(q:ξ ops fr ⟨dst,op,ty,pos,af,g⟩ true)(p:Ω N dst)(h:YC P N ⟨dst,op,ty,pos,af,g⟩ fr (St w0 G0 G L) f c)
  (x:eR P f args j pre (λG L' v=>L'=j/\post G v)) (e:c=args) (hp:pre G) (m:Lo.sub j L) (d:∀i,i∈j.map (·.1)->j.get i=L.get i) (r:w0.L.zero)
  (k:∀v G',Mem.le G G'->post G' v->WL P N ops Q l (θ dst v fr) (St w0 G0 G' L)):WL P N ops Q (⟨dst,op,ty,pos,af,g⟩::l) fr (St w0 G0 G L):=
 WL.yr q (h.D2 x e hp m d r) p (λv a w n ⟨G',s,t,u⟩=>k v G' s u a w n t)
theorem WL.kd{op:Op}{f:FuncId}{args c:Array Value}{d:Lo}{pre:Mem->Prop}{post:Mem->Lo->Value->Prop}(p:ξ ops fr ⟨dst,op,ty,pos,af,g⟩ true)(A:Ω N dst)(h:YC P N ⟨dst,op,ty,pos,af,g⟩ fr (St w0 G0 G L) f c)
  (C:eR P f args d pre post) (e:c=args) (hp:pre G) (u:Lo.sub d L) (B:w0.L.zero)
  (k:∀v G' L',Mem.le G G'->post G' L' v->WL P N ops Q l (θ dst v fr) (St w0 G0 G' (L'++L.gn (d.map (·.1))))):WL P N ops Q (⟨dst,op,ty,pos,af,g⟩::l) fr (St w0 G0 G L):=by
 refine WL.yr (Φ:=λv w'=>∃G' L',Mem.le G G'/\St w0 G0 G' (L'++L.gn (d.map (·.1))) w'/\post G' L' v) p (λa w n q=>?_) A (λv a w n ⟨G',L',s,m,t⟩=>k v G' L' s t a w n m)
 rw[h a w n q]
 subst e
 refine(C w G (q.hp u) hp).mono λe' w' ⟨r,G',L',s,m,t⟩=>⟨r,s,G',L',m.le,q.ext (R:=L.gn (d.map (·.1))) m u (λi x j=>(Lo.AD j).1) (λi x j=>?_) (λi x y hi _ z tQ=>?_) (λi x j=>Lo.get_append _ _ i x j),t⟩
 .cases p:d.get i with
  |none=>rfl
  |some y=>exact absurd (Lo.Fb p) (Lo.AD j).2
 rw[Lo.Bu B tQ];exact Ĝ _
theorem Β.zero{v:Value}{xs:Ŀ α}{tk:ŀ Ow}{x:Ow}(h:Β r e G v xs tk)(a:tk=some x):x.m=0:=by subst a;obtain⟨_,_,_,_,_,h,_⟩:=h;exact h
theorem Δ.eqv{p:ŀ Addr}{n cap:Nat}{xs:Ŀ α}(h:Δ r G (.slice p n cap) xs):Value.slice p n cap=.slice p xs.length cap:=by obtain⟨p',a,cs,c,_⟩:=h;cases c;rfl
theorem Δ.XT{p:ŀ Addr}{n cap:Nat}{xs:Ŀ α}(h:Δ r G (.slice p n cap) xs):Δ r G (.slice p xs.length cap) xs:=by rw[<-h.eqv];exact h
theorem Β.eqv{p:ŀ Addr}{n cap:Nat}{xs:Ŀ α}{tk:ŀ Ow}(h:Β r e G (.slice p n cap) xs tk):Value.slice p n cap=.slice p xs.length cap:=by obtain⟨p',a,c⟩:=h.form;cases c;rfl
theorem WL.qZ{t:TypeId}{len:Nat}{parts:Array (Nat×Operand)}{vs:Array (Nat×Value)}{cs:Ŀ Value}(xs:Ŀ α)(key:Nat)(B:ξ ops fr ⟨dst,.buildSlice t len parts,ty,pos,af,g⟩ true)(A:Ω N dst)
  (m:fr.iy (parts.toList.map (·.2))=some (vs.toList.map (·.2))) (c:parts.toList.map (·.1)=vs.toList.map (·.1)) (d:xs.length=len) (D:len<=small)
  (h:∀w,(Instr.buildSlice t len vs).run P w=.ok (.slice (some ⟨w.heap.size,0,none⟩) len len) (w.alloc (.cells cs.toArray e))) (f:ÿ r G cs xs)
  (k:∀p tk,Β r e G (.slice p len len) xs tk->WL P N ops Q l (θ dst (.slice p len len) fr) (St w0 G0 G ((key,tk)::L))):WL P N ops Q (⟨dst,.buildSlice t len parts,ty,pos,af,g⟩::l) fr (St w0 G0 G L):=by
 refine WL.yr (Φ:=λv w=>∃p tk,v=.slice p len len/\Β r e G (.slice p len len) xs tk/\St w0 G0 G ((key,tk)::L) w) B (λa w s C=>?_) A (λv a w s ⟨p,tk,j,h2,h3⟩=>by subst j;exact k p tk h2 a w s h3)
 have j:=s.iy _ _ m
 have h2:(parts.map λp=>(p.1,a.eval p.2))=vs:=by
  apply ź;simp only[aaJ];have y:parts.toList.length=vs.toList.length:=by have:=Ē List.length c;simpa using this
  generalize parts.toList=ps at *;generalize vs.toList=n at *;clear h m;induction ps generalizing n with
  |nil=>cases n<;>simp_all
  |cons p ps E=>
   cases n with
   |nil=>simp at y
   |cons q n=>
    simp only[ġ,Œ]at c j⊢;exact⟨abV c.1 j.1,E n c.2 j.2 (by simpa using y)⟩
 have h3:(parts.map λ(i,x)=>(i,a.eval x))=vs:=h2
 have:(execOp a.eval ⟨dst,.buildSlice t len parts,ty,pos,af,g⟩).run P w=.ok (.value (.slice (some ⟨w.heap.size,0,none⟩) len len)) (w.alloc (.cells cs.toArray e)):=by simp only[execOp,h3];simp[h w]
 rw[this]
 have u:=f.len
 refine⟨_,some ⟨w.heap.size,.cells cs.toArray e (0,0),0⟩,rfl,⟨len,cs,[],by rw[d],ß,rfl,f,by simp[u,d],by simp only[small,maxLen]at *;omega,ŉ⟩,C.push key (.cells cs.toArray e)⟩
theorem γ.oa{Bt:Ξ}{fs:Ŀ Bool}{l:Ŀ Oper}{Ι:Fr}{Ρ:jr}{d:Nat}{op:Op}{f:FuncId}{args a:Array Value}{pre:Mem->Prop}{post:Mem->Value->Prop}(m:∀u,ξ ops (ς Ρ u++(Ι++fr)) ⟨some d,op,ty,pos,af,g⟩ true)(h:∀u S,YC P N ⟨some d,op,ty,pos,af,g⟩ (ς Ρ u++(Ι++fr)) S f a)(p:iC P f args pre post)(e:a=args)
  (hp:∀G',Mem.le G G'->pre G') (n:∀v c i,Mem.le c i->post c v->post i v) (k:γ P N Q fr w0 G0 G L ops Bt fs l Ι ((d,λv g=>post g.m v)::Ρ)):γ P N Q fr w0 G0 G L ops Bt (false::fs) (⟨some d,op,ty,pos,af,g⟩::l) Ι Ρ:=
 γ.oW d _ rfl (λv _ _ h=>n v _ _ h.1) (λu G' j _=>gE.call (m u) (h u _) p e (hp G'.m j.1)) k
theorem γ.OY{Bt:Ξ}{fs:Ŀ Bool}{l:Ŀ Oper}{Ι:Fr}{Ρ:jr}{o:Oper}{c:Value}(d:∀u,ξ ops (ς Ρ u++(Ι++fr)) o true)(h:∀u G',Mem.le G G'->Y0 P N o (ς Ρ u++(Ι++fr)) (St w0 G0 G' L) c)(k:γ P N Q fr w0 G0 G L ops Bt fs l (θ o.dst c Ι) Ρ):
  γ P N Q fr w0 G0 G L ops Bt (false::fs) (o::l) Ι Ρ:=.inl ⟨c,λu G' a _=>gE.y0 (d u) (h u G'.m a.1),k⟩
theorem γ.sB{Bt:Ξ}{fs:Ŀ Bool}{l:Ŀ Oper}{Ι:Fr}{Ρ:jr}{o:Oper}{c:Value}(e:∀u,ξ ops (ς Ρ u++(Ι++fr)) o true)(h:∀u,Y0 P N o (ς Ρ u++(Ι++fr)) (λ_=>True) c)(k:γ P N Q fr w0 G0 G L ops Bt fs l (θ o.dst c Ι) Ρ):
  γ P N Q fr w0 G0 G L ops Bt (true::fs) (o::l) Ι Ρ:=.inl ⟨c,λu _ _ _=>⟨e u,λa w d _=>h u a w d trivial⟩,k⟩
theorem γ.Dv{Bt:Ξ}{fs:Ŀ Bool}{l:Ŀ Oper}{Ι:Fr}{Ρ:jr}{o:Oper}(a:∀u,ξ ops (ς Ρ u++(Ι++fr)) o false)(k:γ P N Q fr w0 G0 G L ops Bt fs l (θ o.dst undef Ι) Ρ):γ P N Q fr w0 G0 G L ops Bt (false::fs) (o::l) Ι Ρ:=.inl ⟨undef,λu _ _ _=>gE.skip (a u),k⟩
theorem γ.vR{Bt:Ξ}{fs:Ŀ Bool}{l:Ŀ Oper}{Ι:Fr}{Ρ:jr}{o:Oper}{f:FuncId}{c:Value}(i:∀u,ξ ops (ς Ρ u++(Ι++fr)) o true)
  (h:∀u (G':Gx),Mem.le G G'.m->ñ ops o Ρ u G'->∃args a pre,(∀S,YC P N o (ς Ρ u++(Ι++fr)) S f a)/\iC P f args pre (λ_ r=>r=c)/\a=args/\pre G'.m) (k:γ P N Q fr w0 G0 G L ops Bt fs l (θ o.dst c Ι) Ρ) :
  γ P N Q fr w0 G0 G L ops Bt (false::fs) (o::l) Ι Ρ:=.inl ⟨c,λu G' d j=>by
   obtain⟨args,a,pre,e,h2,h3,g⟩:=h u G' d.1 j;exact gE.gg (i u) (e _) h2 h3 g,k⟩
theorem γ.pz{l:Ŀ Oper}{Ι:Fr}{d:Nat}{post:Mem->Value->Prop}(k:∀v G',Mem.le G G'->post G' v->WL P N ops (NX Q) l ((d,v)::(Ι++fr)) (St w0 G0 G' L)):γ P N Q fr w0 G0 G L ops (λ_=>True) [] l Ι [(d,λv g=>post g.m v)]:=λu g c h=>eY.of λa w e f=>
 k (u d) g.m c.1 h.1 a w e f.st
theorem γ.tg{l:Ŀ Oper}{Ι:Fr}{d d':Nat}{post post':Mem->Value->Prop}(k:∀v f G',Mem.le G G'->post G' v->post' G' f->WL P N ops (NX Q) l ((d,v)::(d',f)::(Ι++fr)) (St w0 G0 G' L)):γ P N Q fr w0 G0 G L ops (λ_=>True) [] l Ι [(d,λv g=>post g.m v),(d',λv g=>post' g.m v)]:=λu g c e=>eY.of λa w h i=>
 k (u d) (u d') g.m c.1 e.1 e.2.1 a w h i.st
theorem γ.th{l:Ŀ Oper}{Ι:Fr}{d d' d'':Nat}{post post' post'':Mem->Value->Prop}(k:∀v h c G',Mem.le G G'->post G' v->post' G' h->post'' G' c->WL P N ops (NX Q) l ((d,v)::(d',h)::(d'',c)::(Ι++fr)) (St w0 G0 G' L)):γ P N Q fr w0 G0 G L ops (λ_=>True) [] l Ι [(d,λv g=>post g.m v),(d',λv g=>post' g.m v),(d'',λv g=>post'' g.m v)]:=λu g e f=>eY.of λa w i j=>
 k (u d) (u d') (u d'') g.m e.1 f.1 f.2.1 f.2.2.1 a w i j.st
end
section
variable {α:Type}{enc:α->Ŀ Value}{sz:Nat}
theorem AK(a:∀x,(enc x).length=sz)(l:Ŀ α):(l.flatMap enc).length=l.length*sz:=by
 induction l with
 |nil=>simp
 |cons x l c=>simp only[ś,Ā,a,c,Ę,ō];omega
theorem ZwX(a:∀x,(enc x).length=sz)(l:Ŀ α)(i:Nat)(hi:i<l.length)(j:Nat)(c:j<sz):(l.flatMap enc)[i*sz+j]?=(enc l[i])[j]?:=by
 induction l generalizing i with
 |nil=>simp at hi
 |cons x l d=>
  cases i with
  |zero=>simp only[du,ņ,ś,dw];rw[Ė (by rw[a];exact c)]
  |succ i=>
   simp only[ś,x5];rw[ģ (by rw[a,ō];omega),a,show(i+1)*sz+j-sz=i*sz+j by rw[ō];omega];exact d i (by simpa using hi)
theorem Q6[Inhabited α](d:∀x,(enc x).length=sz)(g:0<sz)(l:Ŀ α):Go.Sort.flatK enc sz l.toArray=(l.flatMap enc).toArray:=by
 apply Array.ext
 .simp only[Go.Sort.size_flatK,Į,AK d]
 intro i a h2;simp only[Go.Sort.size_flatK,Į]at a;have hi:i / sz<l.length:=by rw[Nat.div_lt_iff_lt_mul g];exact a
 have f:i % sz<sz:=x9 _ g;have c:=ZwX d l (i / sz) hi (i % sz) f;rw[show i / sz*sz+i % sz=i by rw[abA];exact Nat.div_add_mod i sz]at c;have h:=Go.Sort.get_flatK enc sz l.toArray i (by simpa using a);rw[ų _ i (by simpa using a)]at h;rw[h];have j:l.toArray[i / sz]! = l[i / sz]:=by rw[ų _ _ (by simpa using hi)];simp
 rw[j,ų _ _ (by rw[d];exact f)];have e:i<(l.flatMap enc).length:=by simpa using h2
 have ki:i % sz<(enc l[i / sz]).length:=by rw[d];exact f
 rw[Ą e,Ą ki]at c;simp only[Đ]at c;simpa using c.symm
end
theorem RQ{w w':World}(a:w'.os=w.os)(h2:w'.tape=w.tape)(h3:w'.output=w.output)(e:w.drawn<=w'.drawn)(f:w.heap.size<=w'.heap.size)(c:∀k,k<w.heap.size->w'.heap[k]?=w.heap[k]?):
  ∃q os,w'=Go.Sort.grow (w.drewN q) os:=by
 refine⟨w'.drawn-w.drawn,w'.heap.extract w.heap.size w'.heap.size,?_⟩
 obtain⟨hp,i,g,o,h⟩:=w'
 simp only at a h2 h3 e f c
 subst a h2 h3
 simp only[Go.Sort.grow,World.drewN]
 congr 1
 .apply aao
  intro k
  rw[Array.getElem?_append]
  split
  .rename_i d;exact c k d
  rename_i d
  rw[Array.getElem?_extract]
  split
  .congr 1;omega
  rw[Array.getElem?_eq_none];omega
 omega
variable {P:Program}{ρ:Go.Shelf.Ren}
open Go.MapKept
structure Ky (P:Program) (kt:TypeId) (K:Type) where
 enc:K->Value
 ok:K->Prop
 inj:∀{x y},enc x=enc y->x=y
 lit:∀{x},ok x->∃l,keyOf P kt (enc x)=some l
 keyed:Go.Maps.Keyed P kt
section
variable {K V:Type} [DecidableEq K]
def eV:Ŀ (K×V)->K->V->Ŀ (K×V)
 |[],k,x=>[(k,x)]
 |p::D,k,x=>if p.1=k then(k,x)::D else p::eV D k x
def fi:Ŀ (K×V)->K->ŀ V
 |[],_=>none
 |p::D,k=>if p.1=k then some p.2 else fi D k
theorem Gg:∀{D:Ŀ (K×V)}{k:K}{x:V},(∀p∈D,p.1≠k)->eV D k x=D++[(k,x)]
 |[],_,_,_=>rfl
 |p::D,k,x,h=>by simp only[eV,ā (h p ß),Ļ];rw[Gg (λq a=>h q (by simp[a]))]
theorem Up:∀{D:Ŀ (K×V)}{k:K},(∀p∈D,p.1≠k)->fi D k=none
 |[],_,_=>rfl
 |p::D,k,h=>by simp only[fi,ā (h p ß)];exact Up (λq a=>h q (by simp[a]))
end
section
variable {K V:Type}
def fh(enc:K->Value)(Rv:K->Value->V->Prop):Ŀ MapEntry->Ŀ (K×V)->Prop
 |[],[]=>True
 |a::es,p::D=>a.key=enc p.1/\Rv p.1 a.val p.2/\fh enc Rv es D
 |_,_=>False
variable {enc:K->Value}{Rv Rv':K->Value->V->Prop}
theorem fh.length:∀{es:Ŀ MapEntry}{D:Ŀ (K×V)},fh enc Rv es D->es.length=D.length
 |[],[],_=>rfl
 |_::_,_::_,h=>by simp only[Ę];rw[fh.length h.2.2]
 |[],_::_,h=>by cases h
 |_::_,[],h=>by cases h
theorem fh.imp:∀{es:Ŀ MapEntry}{D:Ŀ (K×V)},fh enc Rv es D->(∀p∈D,∀v,Rv p.1 v p.2->Rv' p.1 v p.2)->fh enc Rv' es D
 |[],[],_,_=>trivial
 |_::_,p::_,h,hi=>⟨h.1,hi p ß _ h.2.1,fh.imp h.2.2 (λq a=>hi q (by simp[a]))⟩
 |[],_::_,h,_=>by cases h
 |_::_,[],h,_=>by cases h
theorem fh.key:∀{es:Ŀ MapEntry}{D:Ŀ (K×V)},fh enc Rv es D->∀c∈es,∃p∈D,c.key=enc p.1/\Rv p.1 c.val p.2
 |[],[],_,c,h=>by cases h
 |e::_,p::_,h,c,a=>by
  rcases Ď.1 a with rfl|a
  .exact⟨p,ß,h.1,h.2.1⟩
  obtain⟨q,d,r⟩:=fh.key h.2.2 c a;exact⟨q,by simp[d],r⟩
 |[],_::_,h,_,_=>by cases h
 |_::_,[],h,_,_=>by cases h
theorem fh.mem:∀{es:Ŀ MapEntry}{D:Ŀ (K×V)},fh enc Rv es D->∀p∈D,∃a∈es,a.key=enc p.1
 |[],[],_,p,h=>by cases h
 |e::_,q::_,h,p,hp=>by
  rcases Ď.1 hp with rfl|hp
  .exact⟨e,ß,h.1⟩
  obtain⟨a,c,r⟩:=fh.mem h.2.2 p hp;exact⟨a,by simp[c],r⟩
 |[],_::_,h,_,_=>by cases h
 |_::_,[],h,_,_=>by cases h
theorem fh.push:∀{es:Ŀ MapEntry}{D:Ŀ (K×V)}{a:MapEntry}{k:K}{x:V},fh enc Rv es D->a.key=enc k->Rv k a.val x->fh enc Rv (es++[a]) (D++[(k,x)])
 |[],[],_,_,_,_,c,h2=>⟨c,h2,trivial⟩
 |_::_,_::_,_,_,_,h,c,h2=>⟨h.1,h.2.1,fh.push h.2.2 c h2⟩
 |[],_::_,_,_,_,h,_,_=>by cases h
 |_::_,[],_,_,_,h,_,_=>by cases h
theorem fh.set[DecidableEq K](d:∀{x y},enc x=enc y->x=y){k:K}{val:Value}{x:V}(r:Rv' k val x):∀{es:Ŀ MapEntry}{D:Ŀ (K×V)}{j:Nat}{f:MapEntry},fh enc Rv es D->es.Pairwise (λa b=>a.key≠b.key)->
  es[j]?=some f->f.key=enc k->(∀p∈D,p.1≠k->∀v,Rv p.1 v p.2->Rv' p.1 v p.2)->fh enc Rv' (es.set j { f with key:=enc k,val:=val }) (eV D k x)
 |[],_,j,f,_,_,h,_,_=>by simp at h
 |e::es,[],_,_,h,_,_,_,_=>by cases h
 |e::es,p::D,0,f,h,hp,g,i,hi=>by simp only[Ĵ,Đ]at g;subst g;have c:p.1=k:=d (h.1.symm.trans i);simp only[eV,ą c,aa8];refine⟨rfl,r,h.2.2.imp λq l v mf=>hi q (by simp[l]) (λe'=>?_) v mf⟩;obtain⟨s,n,m⟩:=fh.mem h.2.2 q l;exact(ı.1 hp).1 s n (by rw[i,m,e'])
 |e::es,p::D,j+1,f,h,hp,g,i,hi=>by simp only[ĭ]at g;have c:p.1≠k:=λe'=>(ı.1 hp).1 f (Ň g) (by rw[i,h.1,e']);simp only[eV,ā c,List.set_cons_succ];exact⟨h.1,hi p ß c _ h.2.1,fh.set d r h.2.2 (ı.1 hp).2 g i (λq l=>hi q (by simp[l]))⟩
theorem fh.get[DecidableEq K](d:∀{x y},enc x=enc y->x=y){k:K}:∀{es:Ŀ MapEntry}{D:Ŀ (K×V)}{j:Nat}{f:MapEntry},fh enc Rv es D->es.Pairwise (λa b=>a.key≠b.key)->
  es[j]?=some f->f.key=enc k->∃x,fi D k=some x/\Rv k f.val x
 |[],_,j,f,_,_,h,_=>by simp at h
 |e::es,[],_,_,h,_,_,_=>by cases h
 |e::es,p::D,0,f,h,hp,g,i=>by simp only[Ĵ,Đ]at g;subst g;have c:p.1=k:=d (h.1.symm.trans i);refine⟨p.2,by simp[fi,c],?_⟩;rw[<-c];exact h.2.1
 |e::es,p::D,j+1,f,h,hp,g,i=>by simp only[ĭ]at g;have c:p.1≠k:=λe'=>(ı.1 hp).1 f (Ň g) (by rw[i,h.1,e']);simp only[fi,ā c];exact fh.get d h.2.2 (ı.1 hp).2 g i
end
section
variable {P:Program}{kt:TypeId}{K V:Type} [DecidableEq K]
def Ù(ky:Ky P kt K)(Rv:K->Value->V->Prop)(v:Value)(D:Ŀ (K×V))(tk:ŀ Ow):Prop:=
 ∃b es clock,v=.map (some b)/\tk=some ⟨b,.map es clock,0⟩/\Stamped es clock/\(∀p∈D,ky.ok p.1)/\fh ky.enc Rv es.toList D/\D.length<=small
variable {ky:Ky P kt K}{Rv Rv':K->Value->V->Prop}
omit [DecidableEq K] in
theorem Ù.imp{v:Value}{D:Ŀ (K×V)}{tk:ŀ Ow}(h:Ù ky Rv v D tk)(hi:∀p∈D,∀v,Rv p.1 v p.2->Rv' p.1 v p.2):Ù ky Rv' v D tk:=by obtain⟨b,es,clock,a,h2,h3,c,d,e⟩:=h;exact⟨b,es,clock,a,h2,h3,c,d.imp hi,e⟩
omit [DecidableEq K] in
theorem Ù.empty(b:Nat):Ù ky Rv (.map (some b)) [] (some ⟨b,.map #[] 0,0⟩):=⟨b,#[],0,rfl,rfl,stamped_empty 0,ß,trivial,by simp[small]⟩
omit [DecidableEq K] in
theorem Ù.zero{v:Value}{D:Ŀ (K×V)}{tk:ŀ Ow}{x:Ow}(h:Ù ky Rv v D tk)(a:tk=some x):x.m=0:=by obtain⟨b,es,clock,c,h2,_⟩:=h;rw[h2]at a;cases a;rfl
variable {w0:Bs}{G0 G:Mem}{L:Lo}
theorem ZAm{t e:TypeId}(W:P.underlying t=some (.map kt e)){v:Value}{D:Ŀ (K×V)}{tk:ŀ Ow}(h:Ù ky Rv v D tk){key:Nat}(y:L.get key=tk){k:K}{val:Value}{x:V}(E:ky.ok k)(X:Rv' k val x)(hi:∀p∈D,p.1≠k->∀v,Rv p.1 v p.2->Rv' p.1 v p.2)
  (A:(eV D k x).length<=small) (w:World) (U:St w0 G0 G L w):∃B w',(Instr.mapUpdate t v (ky.enc k) val).run P w=.ok () w'/\Ù ky Rv' v (eV D k x) B/\St w0 G0 G ((key,B)::L) w':=by
 obtain⟨b,es,clock,rfl,rfl,h3,I,C,Z⟩:=h
 obtain⟨l,F⟩:=ky.lit E
 have s:=(U.loc key _ y).1
 dsimp only at s
 have N:=(ĕ.1 s).1
 have n:∀u∈es.toList,∃l,keyOf P kt u.key=some l:=λu f=>by obtain⟨p,hp,R,_⟩:=C.key u f;rw[R];exact ky.lit (I p hp)
 have c:∀o',St w0 G0 G ((key,some ⟨b,o',0⟩)::L) { w with heap:=w.heap.setIfInBounds b o' }:=λo'=>
  U.rJ y (by simp[N]) (Ċ _) (λk' _ iu=>absurd iu (ĵ k')) (λk' iu=>by simp only[ť];rw[ā (λe'=>iu e'.symm)]) rfl rfl rfl rfl ß
 rcases ky.keyed.find w F es.toList n with ⟨H,h2⟩|⟨j,T,H,h2,d⟩
 .have a:∀p∈D,p.1≠k:=λp hp e'=>by
   obtain⟨u,f,O⟩:=C.mem p hp;exact h2 u f (by rw[O,e'])
  refine⟨some ⟨b,.map (es.push ⟨ky.enc k,val,clock⟩) (clock+1),0⟩,_,?_,⟨b,_,_,rfl,rfl,stamped_push h3 h2,?_,?_,A⟩,c _⟩
  .simp[Instr.mapUpdate,ē W,aaa s,ky.keyed.check w false F,H,MapKept.run_setObj_map _ s,Result.andThen]
  .rw[Gg a]
   intro p hp
   rcases Ħ.1 hp with hp|hp
   .exact I p hp
   simp only[đ]at hp;subst hp;exact E
  rw[Gg a,Array.toList_push]
  exact(C.imp λp hp v mf=>hi p hp (a p hp) v mf).push rfl X
 have Q:es[j]?=some T:=by rw[<-aaH];exact h2
 have m:∀e':MapEntry,es[j]?=some e'->({ e' with key:=ky.enc k,val:=val }:MapEntry).key=e'.key:=λe' my=>by rw[Q]at my;cases my;exact d.symm
 have S:=((stamped_iff es clock).1 h3).2.2
 have r:(es.modify j λe'=>{ e' with key:=ky.enc k,val:=val }).toList=es.toList.set j { T with key:=ky.enc k,val:=val }:=by
  apply Ÿ;intro i;rw[aaH,ĩ,aae];by_cases g:j=i
  .subst g;rw[ą rfl,ą rfl,Q,ą (ċ.1 h2).1];rfl
  rw[ā g,ā g,aaH]
 refine⟨some ⟨b,.map (es.modify j λe'=>{ e' with key:=ky.enc k,val:=val }) clock,0⟩,_,?_,⟨b,_,_,rfl,rfl,stamped_modify h3 _ _ (λ_ _=>rfl) (λe' _ my=>m e' my),?_,?_,A⟩,c _⟩
 .simp[Instr.mapUpdate,ē W,aaa s,ky.keyed.check w false F,H,Q,d,ky.keyed.stays w F,MapKept.run_setObj_map _ s,Result.andThen]
 .have:∀(D:Ŀ (K×V)),(∀p∈D,ky.ok p.1)->∀p∈eV D k x,ky.ok p.1:=by
   intro D;induction D with
   |nil=>intro _ p hp;simp only[eV,đ]at hp;subst hp;exact E
   |cons q D Y=>
    intro J p hp;simp only[eV]at hp;split at hp
    .rcases Ď.1 hp with rfl|hp
     .exact E
     exact J p (by simp[hp])
    rcases Ď.1 hp with rfl|hp
    .exact J p ß
    exact Y (λp hp=>J p (by simp[hp])) p hp
  exact this D I
 rw[r]
 exact fh.set (λh=>ky.inj h) X C S h2 d hi
theorem run_get(c:Bool){t e:TypeId}(E:P.underlying t=some (.map kt e)){z:Value}(O:∀w,(zeroValue e).run P w=.ok z w){v:Value}{D:Ŀ (K×V)}{tk:ŀ Ow}(h:Ù ky Rv v D tk){key:Nat}(s:L.get key=tk){k:K}(J:ky.ok k)(w:World)(N:St w0 G0 G L w):
  ∃val,(Instr.lookup t v (ky.enc k) c).run P w=.ok (if c then .tuple #[val,.bool (fi D k).isSome]else val) w/\((fi D k=none/\val=z)\/∃x,fi D k=some x/\Rv k val x):=by
 obtain⟨b,es,clock,rfl,rfl,h3,I,n,Q⟩:=h
 obtain⟨l,u⟩:=ky.lit J
 have q:=(N.loc key _ s).1
 dsimp only at q
 have d:∀f∈es.toList,∃l,keyOf P kt f.key=some l:=λf a=>by obtain⟨p,hp,y,_⟩:=n.key f a;rw[y];exact ky.lit (I p hp)
 have A:=((stamped_iff es clock).1 h3).2.2
 rcases ky.keyed.find w u es.toList d with ⟨i,h2⟩|⟨j,H,i,h2,m⟩
 .have g:∀p∈D,p.1≠k:=λp hp e'=>by
   obtain⟨f,a,r⟩:=n.mem p hp;exact h2 f a (by rw[r,e'])
  have C:=Up g
  refine⟨z,?_,.inl ⟨C,rfl⟩⟩
  rw[C]
  simp[Instr.lookup,ē E,aaa q,ky.keyed.check w _ u,i,O,Result.andThen]
 obtain⟨x,F,B⟩:=fh.get (λh=>ky.inj h) n A h2 m
 refine⟨H.val,?_,.inr ⟨x,F,B⟩⟩
 rw[F]
 simp[Instr.lookup,ē E,aaa q,ky.keyed.check w _ u,i,Result.andThen]
end
section
variable {P:Program}{kt:TypeId}{K V:Type} [DecidableEq K] {ky:Ky P kt K}{Rv Rv':K->Value->V->Prop}
variable {N:Nat}{Q:ï}{fr:Fr}{S:Ξ}{ops:Array Oper}{l:Ŀ Oper}{dst:ŀ Nat}{ty:TypeId}{pos:String}{af:Array Edge}{g:ŀ (Nat×Bool)}
variable {w0:Bs}{G0 G:Mem}{L:Lo}
omit [DecidableEq K] in
theorem WL.makeMap{t:TypeId}(key:Nat)(f:ξ ops fr ⟨dst,.makeMap t none,ty,pos,af,g⟩ true)(e:Ω N dst)
  (k:∀b tk,Ù ky Rv (.map (some b)) [] tk->WL P N ops Q l (θ dst (.map (some b)) fr) (St w0 G0 G ((key,tk)::L))):WL P N ops Q (⟨dst,.makeMap t none,ty,pos,af,g⟩::l) fr (St w0 G0 G L):=by
 refine WL.yr (Φ:=λv w=>∃b,v=.map (some b)/\St w0 G0 G ((key,some ⟨b,.map #[] 0,0⟩)::L) w) f (λa w c h=>?_) e (λv a w c ⟨b,d,h2⟩=>by subst d;exact k b _ (Ù.empty b) a w c h2)
 have:(execOp a.eval ⟨dst,.makeMap t none,ty,pos,af,g⟩).run P w=.ok (.value (.map (some w.heap.size))) (w.alloc (.map #[] 0)):=by simp[execOp,run_makeMap]
 rw[this]
 exact⟨_,rfl,h.push key _⟩
theorem WL.lT{t e:TypeId}{m x y:Operand}{v val:Value}{D:Ŀ (K×V)}{tk:ŀ Ow}{k:K}{z:V}(key:Nat)(n:ξ ops fr ⟨none,.mapUpdate t m x y,ty,pos,af,g⟩ true)(u:P.underlying t=some (.map kt e))(h:Ù ky Rv v D tk)(i:L.get key=tk)
  (r:fr.ev m=some v) (B:fr.ev x=some (ky.enc k)) (C:fr.ev y=some val) (q:ky.ok k) (A:Rv' k val z) (hi:∀p∈D,p.1≠k->∀v,Rv p.1 v p.2->Rv' p.1 v p.2) (j:(eV D k z).length<=small)
  (kk:∀c,Ù ky Rv' v (eV D k z) c->WL P N ops Q l fr (St w0 G0 G ((key,c)::L))):WL P N ops Q (⟨none,.mapUpdate t m x y,ty,pos,af,g⟩::l) fr (St w0 G0 G L):=by
 refine WL.yr (Φ:=λ_ w=>∃c,Ù ky Rv' v (eV D k z) c/\St w0 G0 G ((key,c)::L) w) n (λa w d s=>?_) trivial (λ_ a w d ⟨c,f,h2⟩=>kk c f a w d h2)
 obtain⟨c,w',f,h2,h3⟩:=ZAm u h i q A hi j w s
 have:(execOp a.eval ⟨none,.mapUpdate t m x y,ty,pos,af,g⟩).run P w=.ok .skip w'\/(execOp a.eval ⟨none,.mapUpdate t m x y,ty,pos,af,g⟩).run P w=.ok (.value undef) w':=by simp[execOp,d.ev r,d.ev B,d.ev C,f]
 rcases this with this|this<;>rw[this]<;>exact⟨c,h2,h3⟩
theorem Y0.pd{t e:TypeId}{m x:Operand}{v z:Value}{D:Ŀ (K×V)}{tk:ŀ Ow}{k:K}{key:Nat}(A:P.underlying t=some (.map kt e))(C:∀w,(zeroValue e).run P w=.ok z w)(h:Ù ky Rv v D tk)(f:L.get key=tk)
  (s:fr.ev m=some v) (B:fr.ev x=some (ky.enc k)) (r:ky.ok k) (c:Bool) {R:Value->Prop}(n:fi D k=none->R (if c then .tuple #[z,.bool false]else z)) (p:∀val y,fi D k=some y->Rv k val y->R (if c then .tuple #[val,.bool true]else val)) :
  YR P N ⟨dst,.lookup t m x c,ty,pos,af,g⟩ fr (St w0 G0 G L) (λu w=>R u/\St w0 G0 G L w):=λa w i j=>by
 obtain⟨val,hr,q⟩:=run_get c A C h f r w j
 have:(execOp a.eval ⟨dst,.lookup t m x c,ty,pos,af,g⟩).run P w=.ok (.value (if c then .tuple #[val,.bool (fi D k).isSome]else val)) w:=by simp[execOp,i.ev s,i.ev B,hr]
 rw[this]
 refine⟨?_,j⟩
 rcases q with ⟨d,rfl⟩|⟨y,d,l⟩
 .have:=n d;rw[d];exact this
 have:=p val y d l;rw[d];exact this
theorem WL.pd{t e:TypeId}{m x:Operand}{v z:Value}{D:Ŀ (K×V)}{tk:ŀ Ow}{k:K}(key:Nat)(c:Bool){R:Value->Prop}(p:ξ ops fr ⟨dst,.lookup t m x c,ty,pos,af,g⟩ true)(n:Ω N dst)(s:P.underlying t=some (.map kt e))(B:∀w,(zeroValue e).run P w=.ok z w)(h:Ù ky Rv v D tk)(d:L.get key=tk)
  (r:fr.ev m=some v) (A:fr.ev x=some (ky.enc k)) (q:ky.ok k) (f:fi D k=none->R (if c then .tuple #[z,.bool false]else z)) (i:∀val y,fi D k=some y->Rv k val y->R (if c then .tuple #[val,.bool true]else val))
  (kk:∀u,R u->WL P N ops Q l (θ dst u fr) (St w0 G0 G L)):WL P N ops Q (⟨dst,.lookup t m x c,ty,pos,af,g⟩::l) fr (St w0 G0 G L):=
 WL.yr p (Y0.pd s B h d r A q c f i) n (λu a w j ⟨C,E⟩=>kk u C a w j E)
end
end Go.EL

