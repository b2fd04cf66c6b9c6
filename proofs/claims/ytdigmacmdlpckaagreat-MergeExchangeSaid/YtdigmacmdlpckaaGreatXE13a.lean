/- The law MergeExchange holds for every input: a part of its proof (what the code does, plain models, and what they return). No condition. -/
import Derived.Tactics
import Derived.Deep.Quiet
import Derived.KernelRfl
import Derived.Below
import Derived.WalkKit
import Derived.Shelf.Abstract
import Derived.Deep.AppendSrc
import Derived.Scope
import Derived.ChangeKeysEq
import Derived.Laws.StructEq
import Derived.Shelf.SlSortCmp.NoneTotal
import Derived.Maps.Keyed
import Derived.Carry
import Derived.DeepKeys4
import Derived.Laws.BytesString
import Derived.Laws.MakeOwn
import Derived.StringKeys
import Derived.Laws.CopyRow
import Derived.Laws.Externs
import Derived.Maps.RangeRun
import Derived.ChangeSame
import Derived.JoinedOf
import Derived.JoinedAt
import Derived.RowKit3
import Derived.OpenShut
import Derived.ProofKit
import Derived.Deep.Slices
import Derived.Test.YtdigmacmdlpckaaGreatRows
import Derived.RangeFuncGives
import Derived.RangeFuncIn
import Derived.RangeFuncLeaves
import Derived.TacticsIn
import Derived.OwnWalkIn
import Derived.Shelf.SortG.Plain
import Derived.Shelf.SortG.SortNone
import Derived.OrdersIn
import Derived.Shelf.SlLaysF
import Derived.Shelf.SlSortCmp.Pdq1
import Derived.Test.YtdigmacmdlpckaaGreatProg
import Derived.Shelf.SlGeneric
import Derived.Shelf.SlLaysF0
import Derived.Shelf.SlLaysN
import Derived.Ground.SlsfProg
import Derived.Ground.SlgnProg
set_option linter.unusedVariables false
set_option linter.unusedSimpArgs false
namespace Go
abbrev Ŀ:=List
abbrev ŀ:=Option
abbrev Ĳ:=ByteArray
abbrev Ā:=@if_neg
abbrev ā:=@List.length_append
abbrev Ă:=@if_pos
abbrev ă:=@List.mem_map
abbrev Ą:=@List.getElem?_eq_getElem
abbrev ą:=@List.mem_cons
abbrev Ć:=@List.getElem?_eq_some_iff
abbrev ć:=@congrArg
abbrev Ĉ:=@Array.getElem?_eq_some_iff
abbrev ĉ:=@List.mem_append
abbrev Ċ:=@List.getElem_mem
abbrev ċ:=@decide_eq_false
abbrev Č:=@List.length_map
abbrev č:=@Nat.le_refl
abbrev Ď:=@Option.some.injEq
abbrev ď:=@List.append_assoc
abbrev Đ:=@List.length_take
abbrev đ:=@Go.run_underlying
abbrev Ē:=@Bool.and_eq_true
abbrev ē:=@decide_eq_true
abbrev Ĕ:=@List.all_eq_true
abbrev ĕ:=@List.getElem?_append_left
abbrev Ė:=@List.mem_filter
abbrev ė:=@List.map_cons
abbrev Ę:=@List.pairwise_iff_getElem
abbrev ę:=@List.getElem?_toArray
abbrev Ě:=@List.take_append_getElem
abbrev ě:=@List.take_length
abbrev Ĝ:=@of_decide_eq_true
abbrev ĝ:=@List.not_mem_nil
abbrev Ğ:=@List.pairwise_cons
abbrev ğ:=@List.append_nil
abbrev Ġ:=@List.length_cons
abbrev ġ:=@Nat.zero_le
abbrev Ģ:=@decide_eq_true_eq
abbrev ģ:=@Int.toNat_natCast
abbrev Ĥ:=@Option.map_some
abbrev ĥ:=@List.size_toArray
abbrev Ħ:=@List.cons_append
abbrev ħ:=@Array.getElem?_modify
abbrev Ĩ:=@List.mem_iff_getElem
abbrev ĩ:=@List.take_succ_eq_append_getElem
abbrev Ī:=@List.getElem?_append_right
abbrev ī:=@List.mem_singleton
abbrev Ĭ:=@Array.length_toList
abbrev ĭ:=@List.getElem?_cons_succ
abbrev Į:=@Go.IntKind.wrap_i64
abbrev į:=@List.getElem?_cons_zero
abbrev ı:=@Array.getElem?_append_left
abbrev Ĵ:=@List.drop_eq_getElem_cons
abbrev ĵ:=@List.map_nil
abbrev Ķ:=@List.getD_eq_getElem?_getD
abbrev ķ:=@List.map_append
abbrev ĸ:=@List.length_singleton
abbrev Ĺ:=@List.getElem?_eq_none
abbrev ĺ:=@List.length_filter_le
abbrev Ļ:=@Int.eq_ofNat_of_zero_le
abbrev ļ:=@Nat.zero_add
abbrev Ľ:=@List.pairwise_map
abbrev ľ:=@List.take_of_length_le
abbrev Ł:=@List.mem_of_getElem?
abbrev ł:=@Nat.le_trans
abbrev Ń:=@Array.getElem?_eq_getElem
abbrev ń:=@Bool.or_eq_true
abbrev Ņ:=@List.nil_append
abbrev ņ:=@List.mem_append_right
abbrev Ň:=@List.getElem?_take
abbrev ň:=@Int.le_refl
abbrev Ŋ:=@Array.getElem?_setIfInBounds_ne
abbrev ŋ:=@Nat.add_mul
abbrev Ō:=@Bool.not_eq_true'
abbrev ō:=@Nat.not_lt_zero
abbrev Ŏ:=@Bool.false_eq_true
abbrev ŏ:=@Nat.eq_of_beq_eq_true
abbrev Ő:=@List.take_append_drop
abbrev ő:=@List.eq_nil_of_length_eq_zero
abbrev Œ:=@List.filter_cons
abbrev œ:=@List.perm_ext_iff_of_nodup
abbrev Ŕ:=@Option.map_none
abbrev ŕ:=@List.any_eq_true
abbrev Ŗ:=@dif_pos
abbrev ŗ:=@Array.getElem?_setIfInBounds_self_of_lt
abbrev Ř:=@List.mem_append_left
abbrev ř:=@List.length_nil
abbrev Ś:=@Nat.lt_or_ge
abbrev ś:=@Option.getD_some
abbrev Ŝ:=@Classical.byContradiction
abbrev ŝ:=@or_false
abbrev Ş:=@List.map_congr_left
abbrev ş:=@List.getElem_take
abbrev Š:=@Array.getElem?_setIfInBounds
abbrev š:=@getElem!_pos
abbrev Ţ:=@List.map_map
abbrev ţ:=@List.pairwise_append
abbrev Ť:=@List.pairwise_singleton
abbrev ť:=@List.mem_range
abbrev Ŧ:=@List.drop_eq_nil_of_le
abbrev ŧ:=@Go.cell_of_row
abbrev Ũ:=@List.length_set
abbrev ũ:=@List.drop_length
abbrev Ū:=@List.filter_append
abbrev ū:=@Option.isSome_iff_exists
abbrev Ŭ:=@List.Perm.eq_of_pairwise
abbrev ŭ:=@List.take_zero
abbrev Ů:=@List.mem_of_mem_take
abbrev ů:=@List.Perm.refl
abbrev Ű:=@Bool.false_and
abbrev ű:=@decide_eq_false_iff_not
abbrev Ų:=@List.filter_cons_of_neg
abbrev ų:=@List.nodup_cons
abbrev Ŵ:=@Option.some.inj
abbrev ŵ:=@Array.toList_filter
abbrev Ŷ:=@List.length_pos_iff
abbrev ŷ:=@Nat.add_zero
abbrev Ÿ:=@Array.getD_eq_getD_getElem?
abbrev Ź:=@Go.MapKept.run_getObj_map
abbrev ź:=@Nat.testBit_lt_two_pow
abbrev Ż:=@Prod.mk.injEq
abbrev ż:=@Nat.add_assoc
abbrev Ž:=@List.length_drop
abbrev ž:=@decide_eq_decide
abbrev fj:=@Array.ext'
abbrev fk:=@Nat.lt_of_lt_of_le
abbrev fm:=@Int.mul_ediv_add_emod
abbrev fv:=@List.cons.injEq
abbrev fw:=@Nat.zero_lt_one
abbrev fF:=@List.ext_getElem?
abbrev fO:=@Nat.lt_trichotomy
abbrev fP:=@Nat.sub_zero
abbrev fT:=@Nat.zero_mul
abbrev ga:=@Nat.mul_le_mul_right
abbrev gd:=@Nat.mul_one
abbrev gf:=@Go.Result.andThen_ok
abbrev gg:=@Fin.ext
abbrev gj:=@List.flatMap_cons
abbrev gw:=@Int.mul_ediv_cancel_left
abbrev gL:=@List.replicate_succ
abbrev x5:=@Array.contains_push
abbrev x6:=@List.flatMap_append
abbrev x8:=@List.eq_nil_iff_forall_not_mem
abbrev x9:=@Go.World.block_lt_of_cell?
abbrev aaa:=@List.flatMap_nil
abbrev aab:=@Array.ext_getElem?
abbrev aac:=@Int.le_trans
abbrev aad:=@if_false
abbrev aae:=@Nat.min_eq_left
abbrev aaf:=@Bool.false_or
abbrev aag:=@List.length_replicate
abbrev aah:=@List.getElem?_map
abbrev aai:=@Bool.eq_false_iff
abbrev aaj:=@List.setIfInBounds_toArray
abbrev aak:=@List.mem_cons_of_mem
abbrev aal:=@Nat.lt_succ_self
abbrev aam:=@List.getElem_set
abbrev aan:=@List.getElem?_eq_none_iff
abbrev aao:=@Go.run_firstCells_some
abbrev aap:=@List.mergeSort_perm
abbrev aaq:=@Bool.true_and
abbrev aar:=@Go.Value.slice.inj
abbrev aas:=@Go.Calls.mono
abbrev aat:=@Go.Proofs.AnyF.pdqsortCmpFunc_none
abbrev aau:=@List.mem_cons_self
abbrev aav:=@Nat.add_sub_cancel_left
abbrev aaw:=@Go.World.putObj_heap_other
abbrev aax:=@List.filter_cons_of_pos
abbrev aay:=@List.length_eq_zero_iff
abbrev aaz:=@Int.one_mul
abbrev aaA:=@Go.Code.wp_mono
abbrev aaB:=@List.filter_eq_nil_iff
abbrev aaC:=@Array.size_append
abbrev aaD:=@Go.Sem.run_bind
abbrev aaE:=@Nat.mul_comm
abbrev aaF:=@List.getElem?_set
abbrev aaG:=@Go.World.putObj_heap_same
abbrev aaH:=@Int.add_zero
abbrev aaI:=@List.any_eq_false
abbrev aaJ:=@Classical.not_not
abbrev aaK:=@Bool.and_eq_false_iff
abbrev aaL:=@Nat.le_of_ble_eq_true
abbrev aaM:=@Array.getElem?_toList
abbrev aaN:=@Array.getElem?_mapIdx
abbrev aaO:=@Nat.blt_eq
abbrev aaP:=@Array.toList_map
abbrev aaQ:=@Go.RowKit.Below.heap_alloc
abbrev aaR:=@Array.eq_empty_of_size_eq_zero
abbrev aaS:=@List.getElem?_of_mem
abbrev aaT:=@Array.getElem_toList
abbrev aaU:=@Nat.pow_le_pow_right
abbrev aaV:=@List.Perm.of_eq
abbrev aaW:=@Go.run_firstCells_none
abbrev aaX:=@Int.toNat_of_nonneg
abbrev aaY:=@List.map_eq_nil_iff
abbrev aaZ:=@List.filter_eq_self
abbrev aa0:=@List.getElem_of_mem
abbrev aa1:=@Nat.le_of_eq
abbrev aa2:=@Go.callsIn_wide
abbrev aa3:=@Iff.rfl
abbrev aa4:=@of_decide_eq_false
abbrev aa5:=@Go.run_loadCells_list
abbrev aa6:=@Nat.mul_le_mul
abbrev aa7:=@Go.size_zeroCells
abbrev aa8:=@Go.grownCap_le_maxLen
abbrev aa9:=@List.set_cons_zero
abbrev aba:=@Option.isSome_none
abbrev abb:=@Go.Code.wpIn_mono
abbrev abc:=@beq_iff_eq
abbrev abd:=@Int.tmod_eq_emod_of_nonneg
abbrev abe:=@Int.tdiv_eq_ediv_of_nonneg
abbrev abf:=@Nat.shiftRight_eq_div_pow
abbrev abg:=@List.exists_mem_of_ne_nil
abbrev abh:=@Int.mul_neg_of_pos_of_neg
abbrev abi:=@Go.run_storeCells_at
abbrev abj:=@Array.getElem?_replicate
abbrev abk:=@Nat.lt_succ_iff_lt_or_eq
abbrev abl:=@List.all_cons
abbrev abm:=@Go.mem_ready
abbrev abn:=@List.map_toArray
abbrev abo:=@List.pairwise_mergeSort
abbrev abp:=@Nat.le_of_not_lt
abbrev abu:=@Int.not_lt
abbrev abw:=@Int.mul_comm
abbrev abx:=@Go.run_eqGuard_agg
abbrev aby:=@Nat.div_add_mod
abbrev abz:=@Int.natCast_mul
abbrev abA:=@Go.Obj.cells.injEq
abbrev abB:=@Nat.le_antisymm
abbrev abC:=@Bool.eq_iff_iff
abbrev abI:=@List.take_left
abbrev abJ:=@List.drop_left
abbrev abK:=@Nat.one_mul
abbrev abL:=@Go.wpIn_wide
abbrev abN:=@Bool.not_true
abbrev abP:=@Nat.mod_lt
abbrev abQ:=@Nat.not_le
abbrev abR:=@Prod.ext
end Go
namespace Go.EL
open Go.IntKind (i8 i16 i32 i64 u8 u16 u32 u64)
open Go
abbrev Fr:=Ŀ (Nat×Value)
def Fr.get:Fr->Nat->ŀ Value
 | [],_=>none
 | p::r,t=>bif Nat.beq p.1 t then some p.2 else Fr.get r t
def Fr.ev(fr:Fr):Operand->ŀ Value
 | .tmp t=>fr.get t
 | .const v=>some v
 | .global g=>some (.pointer (some ⟨g,0,none⟩))
 | .func f=>some (.func (.func f) #[] #[])
def Fr.nX(fr:Fr):Ŀ Operand->ŀ (Ŀ Value)
 | []=>some []
 | x::r=>match fr.ev x,Fr.nX fr r with
  | some v,some vs=>some (v::vs)
  | _,_=>none
structure Rel (N:Nat) (fr:Fr) (a:Act):Prop where
 defers:a.defers=[]
 size:a.tmps.size=N
 here:∀ t v,fr.get t=some v->a.tmps[t]? = some v
theorem Rel.ev{N:Nat}{fr:Fr}{a:Act}{x:Operand}{v:Value}(h:Rel N fr a)(d:fr.ev x=some v):a.eval x=v:=by
 cases x with
 | tmp t=>simp only[Fr.ev] at d; simp[Act.eval,h.here t v d]
 | const c=>simpa [Fr.ev,Act.eval] using d
 | global g=>simpa [Fr.ev,Act.eval] using d
 | func f=>simpa [Fr.ev,Act.eval] using d
theorem Rel.nX{N:Nat}{fr:Fr}{a:Act}(h:Rel N fr a):∀ (xs:Ŀ Operand) (vs:Ŀ Value),fr.nX xs=some vs->xs.map a.eval=vs
 | [],vs,e=>by simp[Fr.nX] at e; simp[e]
 | x::r,vs,e=>by
  simp only[Fr.nX] at e
  split at e
  .rename_i v f c d
   simp only[Ď] at e
   subst e
   simp[h.ev c,Rel.nX h r f d]
  cases e
theorem Rel.put{N:Nat}{fr:Fr}{a:Act}{d:Nat}(v:Value)(h:Rel N fr a)(i:d<N):Rel N ((d,v)::fr) (a.put (some d) v) where
 defers:=h.defers
 size:=by simp[Act.put,h.size]
 here:=by
  intro t u c
  simp only[Fr.get] at c
  cases f:Nat.beq d t with
  | true=>
   rw[f] at c
   simp only[cond_true,Ď] at c
   have:=ŏ f
   subst this c
   simp[Act.put,h.size,i]
  | false=>
   rw[f] at c
   simp only[cond_false] at c
   have g:d≠t:=λe=>by subst e; simp at f
   simp only[Act.put]
   rw[Ŋ g]
   exact h.here t u c
def Fr.sub(sx fr:Fr):Prop:=∀ t v,sx.get t=some v->fr.get t=some v
theorem Fr.Zs(fr:Fr):Fr.sub [] fr:=λt v h=>by simp[Fr.get] at h
theorem Fr.Ze{sx fr:Fr}{t:Nat}{v:Value}(h:fr.get t=some v)(d:Fr.sub sx fr):Fr.sub ((t,v)::sx) fr:=by
 intro u x a
 simp only[Fr.get] at a
 cases c:Nat.beq t u with
 | true=>
  rw[c] at a
  simp only[cond_true,Ď] at a
  have:=ŏ c
  subst this a
  exact h
 | false=>
  rw[c] at a
  simp only[cond_false] at a
  exact d u x a
theorem Rel.weaken{N:Nat}{fr sx:Fr}{a:Act}(h:Rel N fr a)(c:Fr.sub sx fr):Rel N sx a:=⟨h.defers,h.size,λt v e=>h.here t v (c t v e)⟩
abbrev Υ:=World->Prop
abbrev õ:=Exit->Act->World->Prop
def WC(P:Program)(N:Nat)(c:Code)(Q:õ)(fr:Fr)(S:Υ):Prop:=∀ a w,Rel N fr a->S w->c.wp P Q a w
def WE(N:Nat)(Q:õ)(e:Exit)(fr:Fr)(S:Υ):Prop:=∀ a w,Rel N fr a->S w->Q e a w
def WL(P:Program)(N:Nat)(ops:Array Oper)(Q:õ)(l:Ŀ Oper)(fr:Fr)(S:Υ):Prop:=∀ a w,Rel N fr a->S w->wpList P ops Q l a w
section
variable {P:Program}{N:Nat}{Q:õ}{fr:Fr}{S:Υ}
theorem WC.seq{x y:Code}(h:WC P N x (Exit.then (y.wp P Q) Q) fr S):WC P N (.seq x y) Q fr S:=λa w c d=>wp_seq (h a w c d)
theorem WC.skip(h:WE N Q .normal fr S):WC P N .skip Q fr S:=λa w c d=>wp_skip (h a w c d)
theorem WC.exit{id:Nat}(h:WE N Q (.exit id) fr S):WC P N (.exit id) Q fr S:=λa w c d=>wp_exit (h a w c d)
theorem WC.ret(h:WE N Q .ret fr S):WC P N .ret Q fr S:=λa w c d=>wp_ret (h a w c d)
theorem WC.block{id:Nat}{c:Code}(h:WC P N c (Exit.inBlock id Q) fr S):WC P N (.block id c) Q fr S:=λa w d e=>wp_block (h a w d e)
theorem WC.region{id:Nat}{l:Ŀ Oper}(h:WL P N l.toArray Q l fr S):WC P N (.region id l.toArray false) Q fr S:=λa w c d=>wp_region_lit (h a w c d)
theorem WC.cond{c:Operand}{x y:Code}{b:Bool}(g:fr.ev c=some (.bool b))(i:b=true->WC P N x Q fr S)(h:b=false->WC P N y Q fr S):WC P N (.cond c x y) Q fr S:=
 λa w d f=>wp_cond_split (d.ev g) (λe=>i e a w d f) (λe=>h e a w d f)
theorem WC.iD{c:Operand}{x y:Code}{p:Prop}[Decidable p](a:fr.ev c=some (.bool (decide p)))(f:p->WC P N x Q fr S)(d:¬ p->WC P N y Q fr S):WC P N (.cond c x y) Q fr S:=
 WC.cond a (λe=>f (Ĝ e)) (λe=>d (aa4 e))
theorem WC.tK{c:Operand}{x y:Code}(a:fr.ev c=some (.bool true))(d:WC P N x Q fr S):WC P N (.cond c x y) Q fr S:=WC.cond a (λ_=>d) (λe=>by cases e)
theorem WC.qD{c:Operand}{x y:Code}(a:fr.ev c=some (.bool false))(d:WC P N y Q fr S):WC P N (.cond c x y) Q fr S:=WC.cond a (λe=>by cases e) (λ_=>d)
theorem WE.then{c:Code}(h:WC P N c Q fr S):WE N (Exit.then (c.wp P Q) Q) .normal fr S:=h
theorem WE.ã{K:Act->World->Prop}{id:Nat}(h:WE N Q (.exit id) fr S):WE N (Exit.then K Q) (.exit id) fr S:=h
theorem WE.kY{K:Act->World->Prop}(h:WE N Q .ret fr S):WE N (Exit.then K Q) .ret fr S:=h
theorem WE.inBlock{id:Nat}(h:WE N Q .normal fr S):WE N (Exit.inBlock id Q) .normal fr S:=h
theorem WE.kF{id:Nat}(h:WE N Q .ret fr S):WE N (Exit.inBlock id Q) .ret fr S:=h
theorem WE.Ö{id:Nat}(h:WE N Q .normal fr S):WE N (Exit.inBlock id Q) (.exit id) fr S:=λa w c d=>by
 simp only[Exit.inBlock,if_true]; exact h a w c d
theorem WE.vx{id c:Nat}(d:Nat.beq c id=false)(h:WE N Q (.exit c) fr S):WE N (Exit.inBlock id Q) (.exit c) fr S:=λa w f g=>by
 have:¬ c=id:=λe=>by subst e; simp at d
 simp only[Exit.inBlock,this,aad]; exact h a w f g
theorem WL.Ì{ops:Array Oper}{l:Ŀ Oper}{S':Υ}(c:∀ w,S w->S' w)(h:WL P N ops Q l fr S'):WL P N ops Q l fr S:=λa w d e=>h a w d (c w e)
theorem WC.Ì{c:Code}{S':Υ}(d:∀ w,S w->S' w)(h:WC P N c Q fr S'):WC P N c Q fr S:=λa w e f=>h a w e (d w f)
theorem WE.Ì{e:Exit}{S':Υ}(c:∀ w,S w->S' w)(h:WE N Q e fr S'):WE N Q e fr S:=λa w d f=>h a w d (c w f)
theorem WL.nil{ops:Array Oper}(h:WE N Q .normal fr S):WL P N ops Q [] fr S:=h
def FW{X:Type}(N:Nat)(F:X->Fr)(I:X->Υ)(m:X->Nat)(x:X):Act->World->Prop:=λa w=>∃ x',Rel N (F x') a/\I x' w/\m x'<m x
theorem least{p:Nat->Prop}(h:∃ n,p n):∃ n,p n/\∀ k,p k->n<=k:=by
 obtain⟨n,e⟩:=h
 induction n using Nat.strongRecOn with
 | _ n f=>
  by_cases a:∃ k,k<n/\p k
  .obtain⟨k,c,d⟩:=a
   exact f k c d
  refine⟨n,e,λk hp=>?_⟩
  rcases Ś k n with h|h
  .exact absurd ⟨k,h,hp⟩ a
  exact h
theorem WC.loop{c:Code}{X:Type}(F:X->Fr)(I:X->Υ)(m:X->Nat)(d:X)(r:Fr.sub (F d) fr)(s:∀ w,S w->I d w)
  (round:∀ x,WC P N c (Exit.then (FW N F I m x) Q) (F x) (I x)):WC P N (.loop c) Q fr S:=by
 classical
 intro a w t u
 have f:∀ a w,(∃ x,Rel N (F x) a/\I x w)->∃ n,∃ x,(Rel N (F x) a/\I x w)/\m x=n:=λa w ⟨x,h⟩=>⟨m x,x,h,rfl⟩
 let μ:Act->World->Nat:=λa w=>if h:∃ x,Rel N (F x) a/\I x w then Classical.choose (least (f a w h)) else 0
 refine wp_loop (λa w=>∃ x,Rel N (F x) a/\I x w) μ ⟨d,t.weaken r,s w u⟩ ?_
 intro a w h
 obtain⟨x,⟨j,l⟩,p⟩:=(Classical.choose_spec (least (f a w h))).1
 have v:μ a w=m x:=by simp only[μ,Ŗ h]; exact p.symm
 refine aaA (λe a' w' q=>?_) (round x a w j l)
 cases e <;> first|exact q|skip
 obtain⟨x',g,i,y⟩:=q
 refine⟨⟨x',g,i⟩,?_⟩
 have h':∃ x,Rel N (F x) a'/\I x w':=⟨x',g,i⟩
 have:μ a' w'<=m x':=by simp only[μ,Ŗ h']; exact (Classical.choose_spec (least (f a' w' h'))).2 _ ⟨x',⟨g,i⟩,rfl⟩
 omega
end
def Y0(P:Program)(N:Nat)(o:Oper)(fr:Fr)(S:Υ)(v:Value):Prop:=∀ a w,Rel N fr a->S w->(execOp a.eval o).run P w = .ok (.value v) w
def YS(P:Program)(N:Nat)(o:Oper)(fr:Fr)(S S':Υ):Prop:=∀ a w,Rel N fr a->S w->∃ w',(execOp a.eval o).run P w = .ok .skip w'/\S' w'
def YC(P:Program)(N:Nat)(o:Oper)(fr:Fr)(S:Υ)(f:FuncId)(args:Array Value):Prop:=∀ a w,Rel N fr a->S w->(execOp a.eval o).run P w = .ok (.enter f args) w
section
variable {P:Program}{N:Nat}{Q:õ}{fr:Fr}{S:Υ}{ops:Array Oper}{l:Ŀ Oper}
def κ(ops:Array Oper)(fr:Fr)(o:Oper)(b:Bool):Prop:=
 match o.guard with
 | none=>b=true
 | some (j,a)=>(∃ d c,(ops[j]?).bind (·.dst)=some d/\fr.get d=some (.bool c)/\b=(c == a))\/(∃ d,(ops[j]?).bind (·.dst)=some d/\fr.get d=some undef/\b=false)
theorem Rel.wanted{a:Act}{o:Oper}{b:Bool}(h:Rel N fr a)(e:κ ops fr o b):Region.wanted o (yielded ops a.tmps)=b:=by
 unfold κ at e
 unfold Region.wanted
 cases m:o.guard with
 | none=>rw[m] at e; simp at e; simp[e]
 | some p=>
  obtain⟨j,f⟩:=p
  rw[m] at e
  rcases e with ⟨d,c,g,i,l⟩|⟨d,g,i,l⟩
  .simp only[yielded,g,Option.bind_some,h.here d _ i]
   rw[l]
   cases c <;> cases f <;> rfl
  simp only[yielded,g,Option.bind_some,h.here d _ i]
  rw[l]
  rfl
def ξ(d:ŀ Nat)(v:Value)(fr:Fr):Fr:=match d with|some t=>(t,v)::fr|none=>fr
def è(N:Nat)(d:ŀ Nat):Prop:=match d with|some t=>Nat.blt t N=true|none=>True
theorem Rel.ξ{a:Act}{d:ŀ Nat}(v:Value)(h:Rel N fr a)(c:è N d):Rel N (EL.ξ d v fr) (a.put d v):=by
 cases d with
 | none=>exact h
 | some t=>exact h.put v (by simpa [è,aaO] using c)
theorem WL.mZ{dst:ŀ Nat}{op:Op}{ty:TypeId}{pos:String}{af:Array Edge}{g:ŀ (Nat×Bool)}{v:Value}
  (f:κ ops fr ⟨dst,op,ty,pos,af,g⟩ true) (h:Y0 P N ⟨dst,op,ty,pos,af,g⟩ fr S v) (e:è N dst) (k:WL P N ops Q l (ξ dst v fr) S):WL P N ops Q (⟨dst,op,ty,pos,af,g⟩::l) fr S:=by
 intro a w c d
 unfold wpList
 rw[Ă (c.wanted f)]
 refine .inl ?_
 simp only[Oper.wp,h a w c d,Oper.upon]
 exact k _ w (c.ξ v e) d
theorem WL.FV{op:Op}{ty:TypeId}{pos:String}{af:Array Edge}{g:ŀ (Nat×Bool)}{S':Υ}
  (d:κ ops fr ⟨none,op,ty,pos,af,g⟩ true) (h:YS P N ⟨none,op,ty,pos,af,g⟩ fr S S') (k:WL P N ops Q l fr S'):WL P N ops Q (⟨none,op,ty,pos,af,g⟩::l) fr S:=by
 intro a w c f
 obtain⟨w',e,hp⟩:=h a w c f
 unfold wpList
 rw[Ă (c.wanted d)]
 refine .inl ?_
 simp only[Oper.wp,e,Oper.upon]
 exact k _ w' c hp
theorem WL.skip{dst:ŀ Nat}{op:Op}{ty:TypeId}{pos:String}{af:Array Edge}{g:ŀ (Nat×Bool)}
  (e:κ ops fr ⟨dst,op,ty,pos,af,g⟩ false) (d:è N dst) (k:WL P N ops Q l (ξ dst undef fr) S):WL P N ops Q (⟨dst,op,ty,pos,af,g⟩::l) fr S:=by
 intro a w c f
 unfold wpList
 rw[Ā (by rw[c.wanted e]; simp)]
 exact k _ w (c.ξ undef d) f
theorem Zf{dst:ŀ Nat}{op:Op}{ty:TypeId}{pos:String}{af:Array Edge}:κ ops fr ⟨dst,op,ty,pos,af,none⟩ true:=rfl
theorem I7{dst:ŀ Nat}{op:Op}{ty:TypeId}{pos:String}{af:Array Edge}{j:Nat}{c:Bool}{d:Nat}(a:(ops[j]?).bind (·.dst)=some d)(e:fr.get d=some (.bool c)):
  κ ops fr ⟨dst,op,ty,pos,af,some (j,c)⟩ true:=.inl ⟨d,c,a,e,by cases c <;> rfl⟩
theorem Zts{dst:ŀ Nat}{op:Op}{ty:TypeId}{pos:String}{af:Array Edge}{j:Nat}{c:Bool}{d:Nat}(a:(ops[j]?).bind (·.dst)=some d)(e:fr.get d=some (.bool (!c))):
  κ ops fr ⟨dst,op,ty,pos,af,some (j,c)⟩ false:=.inl ⟨d,!c,a,e,by cases c <;> rfl⟩
theorem I6{dst:ŀ Nat}{op:Op}{ty:TypeId}{pos:String}{af:Array Edge}{j:Nat}{d:Nat}(a:(ops[j]?).bind (·.dst)=some d)(c:fr.get d=some (.bool false)):
  κ ops fr ⟨dst,op,ty,pos,af,some (j,true)⟩ false:=.inl ⟨d,false,a,c,rfl⟩
theorem Pv{dst:ŀ Nat}{op:Op}{ty:TypeId}{pos:String}{af:Array Edge}{j:Nat}{d:Nat}(a:(ops[j]?).bind (·.dst)=some d)(c:fr.get d=some (.bool true)):
  κ ops fr ⟨dst,op,ty,pos,af,some (j,false)⟩ false:=.inl ⟨d,true,a,c,rfl⟩
theorem ND{dst:ŀ Nat}{op:Op}{ty:TypeId}{pos:String}{af:Array Edge}{j:Nat}{c:Bool}{d:Nat}(a:(ops[j]?).bind (·.dst)=some d)(e:fr.get d=some undef):
  κ ops fr ⟨dst,op,ty,pos,af,some (j,c)⟩ false:=.inr ⟨d,a,e,rfl⟩
end
def lO(md:Region.Mode)(a:Ŀ (Ŀ Nat))(o:Oper):Ŀ Nat:=
 (List.range a.length).filter λj=>o.after.toList.any λe=>Region.binds md e && (Nat.beq e.on j || (a.getD e.on []).contains j)
def lP(md:Region.Mode):Ŀ Oper->Ŀ (Ŀ Nat)->Ŀ (Ŀ Nat)
 | [],a=>a
 | o::r,a=>lP md r (a++[lO md a o])
theorem II(md:Region.Mode):∀ (l:Ŀ Oper) (a:Ŀ (Ŀ Nat)) (k:Nat),k<a.length->(lP md l a)[k]? = a[k]?
 | [],a,k,_=>rfl
 | o::r,a,k,h=>by
  simp only[lP]
  rw[II md r _ k (by simp; omega),ĕ h]
theorem Q8(md:Region.Mode):∀ (l:Ŀ Oper) (a:Ŀ (Ŀ Nat)) (i:Nat) (o:Oper),l[i]? = some o->
  (lP md l a)[a.length+i]? = some (lO md ((lP md l a).take (a.length+i)) o)
 | [],a,i,o,h=>by simp at h
 | p::r,a,0,o,h=>by
  simp at h
  subst h
  simp only[lP,ŷ]
  have d:=II md r (a++[lO md a p]) a.length (by simp)
  rw[d]
  have f:(lP md r (a++[lO md a p])).take a.length=a:=by
   apply fF
   intro j
   rw[Ň]
   split
   .rename_i c
    rw[II md r _ j (by simp; omega),ĕ c]
   rename_i c
   simp at c
   rw[Ĺ c]
  rw[f]
  simp
 | p::r,a,i+1,o,h=>by
  simp at h
  have:=Q8 md r (a++[lO md a p]) i o h
  simp only[lP]
  have e:(a++[lO md a p]).length+i=a.length+(i+1):=by simp; omega
  rw[e] at this
  exact this
def jW(md:Region.Mode)(ops:Array Oper)(D:Nat->Prop):Prop:=∀ i o,ops[i]? = some o->D i->∀ e ∈ o.after,Region.binds md e=true->D e.on
theorem zi{md:Region.Mode}{l:Ŀ Oper}{D:Nat->Prop}(r:jW md l.toArray D):
  ∀ k o,l[k]? = some o->(∀ e ∈ o.after,Region.binds md e=true->D e.on)->∀ j,j ∈ (lP md l []).getD k []->D j:=by
 intro k
 induction k using Nat.strongRecOn with
 | _ k w=>
  intro o p v j i
  have h:=Q8 md l [] k o p
  simp only[ř,ļ] at h
  rw[Ķ,h] at i
  simp only[ś,lO,Ė,ť,ŕ,Ē,ń] at i
  obtain⟨t,e,s,q,a⟩:=i
  have n:=v e (by simpa using s) q
  rcases a with a|a
  .have:=ŏ a
   subst this
   exact n
  have d:e.on<k:=by
   rcases Ś e.on k with h|h
   .exact h
   rw[Ķ,Ĺ (by simp; omega)] at a
   simp at a
  have c:((lP md l []).take k).getD e.on []=(lP md l []).getD e.on []:=by
   rw[Ķ,Ķ,Ň,Ă d]
  rw[c] at a
  have u:k<l.length:=(Ć.1 p).1
  have m:l[e.on]? = some (l[e.on]'(by omega)):=Ą (by omega)
  exact w e.on d _ m (λe' g f=>r e.on _ (by simp) n e' g f) j (by simpa using a)
def lE(md:Region.Mode)(l:Ŀ Oper)(fl:Ŀ Bool):Bool:=
 let A:=lP md l []
 (List.range l.length).all λk=>Nat.blt k fl.length || (List.range k).all λj=>fl.getD j false || (A.getD k []).contains j
section
variable {P:Program}{Q:õ}{md:Region.Mode}{l:Ŀ Oper}{fl:Ŀ Bool}
theorem QM{D:Nat->Prop}(c:lE md l fl=true)(f:jW md l.toArray D){k:Nat}{o:Oper}(n:fl.length<=k)(d:l[k]? = some o)
  (m:∀ e ∈ o.after,Region.binds md e=true->D e.on):∀ j,j<k->fl.getD j false=false->D j:=by
 intro j i g
 have a:k<l.length:=(Ć.1 d).1
 simp only[lE,Ĕ,ť,ń,aaO] at c
 rcases c k a with h|h
 .omega
 rcases h j i with h'|h'
 .rw[g] at h'; cases h'
 exact zi f k o d m j (by simpa using h')
def oO(md:Region.Mode)(l:Ŀ Oper):Bool:=(List.range l.length).all λi=>((l[i]?).map λo=>o.after.toList.all λe=>!Region.binds md e || Nat.blt e.on i).getD true
theorem Zte(c:oO md l=true){i:Nat}{o:Oper}(f:l[i]? = some o):∀ e ∈ o.after,Region.binds md e=true->e.on<i:=by
 intro e g d
 have a:i<l.length:=(Ć.1 f).1
 simp only[oO,Ĕ,ť] at c
 have:=c i a
 rw[f] at this
 simp only[Ĥ,ś,Ĕ,ń,Ō,aaO] at this
 rcases this e (by simpa using g) with h|h
 .rw[h] at d; cases d
 exact h
def nw(L:Nat)(a:Array Bool):Nat:=((List.range L).filter λi=>!a.getD i false).length
theorem MT:∀ (l₁ l₂:Ŀ Nat),l₁.Nodup->(∀ x,x ∈ l₁->x ∈ l₂)->l₁.length<=l₂.length
 | [],_,_,_=>by simp
 | x::r,l₂,g,c=>by
  have d:x ∈ l₂:=c x (by simp)
  have a:=ų.1 g
  have h:=MT r (l₂.erase x) a.2 (λy f=>(List.mem_erase_of_ne (λ(e:y=x)=>a.1 (by rw[<- e]; exact f))).2 (c y (by simp[f])))
  have i:=List.length_erase_of_mem d
  have hp:=List.length_pos_of_mem d
  simp only[Ġ]
  omega
theorem X3{L i:Nat}{a:Array Bool}(h:a.size=L)(hi:i<L)(m:a.getD i false=false):nw L (a.setIfInBounds i true)+1<=nw L a:=by
 unfold nw
 have d:∀ j,j ∈ (i::(List.range L).filter λj=>!(a.setIfInBounds i true).getD j false)->j ∈ (List.range L).filter λj=>!a.getD j false:=by
  intro j g
  simp only[ą,Ė,ť,Ō] at g ⊢
  rcases g with rfl|⟨l,f⟩
  .exact⟨hi,m⟩
  refine⟨l,?_⟩
  by_cases e:i=j
  .subst e; simp[h,hi] at f
  rw[getD_set_ne false e] at f; exact f
 have c:(i::(List.range L).filter λj=>!(a.setIfInBounds i true).getD j false).Nodup:=by
  refine ų.2 ⟨?_,List.nodup_range.filter _⟩
  simp[h,hi]
 have:=MT _ _ c d
 simpa using this
theorem ZsW(Inv:(Nat->Prop)->Act->World->Prop)(f:(Nat->Prop)->Nat->Act->World->Prop)(hE:oO md l=true)(hT:lE md l fl=true)
  (step:∀ (D:Nat->Prop) a w i o,jW md l.toArray D->(∀ k,fl.length<=k->¬ D k)->i<fl.length->l[i]? = some o->¬ D i->(∀ e ∈ o.after,Region.binds md e=true->D e.on)->Inv D a w->
   wpOp P l.toArray Q i (λa' w'=>Inv (λj=>D j\/j=i) a' w') a w)
  (nK:∀ (D:Nat->Prop) a w,jW md l.toArray D->(∀ i,i<fl.length->i<l.length->fl.getD i false=false->D i)->(∀ k,fl.length<=k->¬ D k)->Inv D a w->f D fl.length a w)
  (tail:∀ (D:Nat->Prop) a w m o,jW md l.toArray D->fl.length<=m->l[m]? = some o->(∀ k,m<=k->¬ D k)->(∀ e ∈ o.after,Region.binds md e=true->D e.on)->f D m a w->
   wpOp P l.toArray Q m (λa' w'=>f (λj=>D j\/j=m) (m+1) a' w') a w)
  (float:∀ (D:Nat->Prop) a w m i o,jW md l.toArray D->i<fl.length->fl.length<=m->fl.getD i false=true->l[i]? = some o->¬ D i->(∀ e ∈ o.after,Region.binds md e=true->D e.on)->f D m a w->
   wpOp P l.toArray Q i (λa' w'=>f (λj=>D j\/j=i) m a' w') a w)
  (ag:∀ (D:Nat->Prop) a w m,(∀ i,i<l.length->D i)->l.length<=m->f D m a w->Q .normal a w) :
  ∀ (fuel:Nat) (c:Array Bool) (D:Nat->Prop) (a:Act) (w:World),c.size=l.length->(∀ i,D i↔c.getD i false=true)->jW md l.toArray D->
   nw l.length c<=fuel->
   ((∃ i,i<fl.length/\i<l.length/\fl.getD i false=false/\¬ D i)/\(∀ k,fl.length<=k->¬ D k)/\Inv D a w\/
    ∃ m,fl.length<=m/\(∀ i,i<fl.length->i<l.length->fl.getD i false=false->D i)/\(∀ i,fl.length<=i->i<m->i<l.length->D i)/\(∀ k,m<=k->¬ D k)/\f D m a w)->
   wpAny P md l.toArray Q fuel c a w:=by
 have g:∀ (c:Array Bool) (D:Nat->Prop) (j:Nat),c.size=l.length->(∀ i,D i↔c.getD i false=true)->j ∈ Region.ready md l.toArray c->
   ¬ D j/\∃ o,l[j]? = some o/\∀ e ∈ o.after,Region.binds md e=true->D e.on:=by
  intro c D j A t Z
  obtain⟨V,o,s,G⟩:=abm.1 Z
  have al:j<l.length:=by
   have:=(Ĉ.1 s).1
   simpa using this
  refine⟨λh=>?_,o,by simpa using s,λe Y H=>(t _).2 (G e Y H)⟩
  rw[t] at h
  simp[A,al] at h V
  rw[h] at V
  cases V
 have E:∀ (c:Array Bool) (D:Nat->Prop) (j:Nat),c.size=l.length->(∀ i,D i↔c.getD i false=true)->j<l.length->¬ D j->(∀ i,i<j->D i)->j ∈ Region.ready md l.toArray c:=by
  intro c D j A t Z hn d
  have s:l[j]? = some l[j]:=Ą Z
  refine abm.2 ⟨?_,l[j],by simp,λe Y H=>(t _).1 (d _ (Zte hE s e Y H))⟩
  rw[t] at hn
  simp[A,Z] at hn ⊢
  exact hn
 have L:∀ (c:Array Bool) (D:Nat->Prop),c.size=l.length->(∀ i,D i↔c.getD i false=true)->Region.ready md l.toArray c=[]->∀ i,i<l.length->D i:=by
  intro c D A t hr i hi
  apply Ŝ
  intro v
  obtain⟨j,⟨aj,ak⟩,ac⟩:=least (p:=λj=>j<l.length/\¬ D j) ⟨i,hi,v⟩
  have:j ∈ Region.ready md l.toArray c:=E c D j A t aj ak (λk J=>by
   apply Ŝ
   intro am
   have:=ac k ⟨by omega,am⟩
   omega)
  rw[hr] at this
  cases this
 have B:∀ (D:Nat->Prop) a w,(∀ i,i<l.length->D i)->((∃ i,i<fl.length/\i<l.length/\fl.getD i false=false/\¬ D i)/\(∀ k,fl.length<=k->¬ D k)/\Inv D a w\/
    ∃ m,fl.length<=m/\(∀ i,i<fl.length->i<l.length->fl.getD i false=false->D i)/\(∀ i,fl.length<=i->i<m->i<l.length->D i)/\(∀ k,m<=k->¬ D k)/\f D m a w)->Q .normal a w:=by
  intro D a w d h
  rcases h with ⟨⟨i,_,W,_,F⟩,_⟩|⟨m,_,_,_,F,h4⟩
  .exact absurd (d i W) F
  have:l.length<=m:=by
   rcases Ś m l.length with h|h
   .exact absurd (d m h) (F m (č _))
   exact h
  exact ag D a w m d this h4
 intro fuel
 induction fuel with
 | zero=>
  intro c D a w A t S hf h
  have d:∀ i,i<l.length->D i:=by
   intro i hi
   rw[t]
   have V:(List.range l.length).filter (λi=>!c.getD i false)=[]:=List.eq_nil_of_length_eq_zero (by unfold nw at hf; omega)
   rw[aaB] at V
   have:=V i (by simpa using hi)
   simpa using this
  refine⟨?_,B D a w d h⟩
  apply x8.2
  intro j Z
  obtain⟨N,o,s,_⟩:=g c D j A t Z
  exact N (d j (Ć.1 s).1)
 | succ fuel ih=>
  intro c D a w A t S hf h
  have next:∀ i,i<l.length->¬ D i->(∀ o,l[i]? = some o->∀ e ∈ o.after,Region.binds md e=true->D e.on)->(∀ j,(D j\/j=i)↔(c.setIfInBounds i true).getD j false=true)/\
    jW md l.toArray (λj=>D j\/j=i)/\nw l.length (c.setIfInBounds i true)<=fuel:=by
   intro i hi hn G
   refine⟨λj=>?_,?_,?_⟩
   .by_cases e:i=j
    .subst e; simp[A,hi]
    rw[getD_set_ne false e,<- t]
    exact⟨λh=>h.resolve_right (λh=>e h.symm),.inl⟩
   .intro k o s J e Y H
    rcases J with J|rfl
    .exact .inl (S k o s J e Y H)
    exact .inl (G o (by simpa using s) e Y H)
   have hu:c.getD i false=false:=by
    cases H:c.getD i false
    .rfl
    exact absurd ((t i).2 H) hn
   have:=X3 A hi hu
   omega
  refine⟨λhr=>B D a w (L c D A t hr) h,λi hi=>?_⟩
  obtain⟨v,o,s,G⟩:=g c D i A t hi
  have U:i<l.length:=(Ć.1 s).1
  obtain⟨R,I,T⟩:=next i U v (λo' ad=>by rw[s] at ad; cases ad; exact G)
  rcases h with ⟨⟨q,N,W,y,F⟩,C,aa⟩|⟨m,N,W,O,F,h4⟩
  .have u:i<fl.length:=by
    rcases Ś i fl.length with h|h
    .exact h
    exact absurd (QM hT S h s G q (by omega) y) F
   refine wpOp_mono (λa' w' X=>?_) (step D a w i o S C u s v G aa)
   have r:∀ k,fl.length<=k->¬ (D k\/k=i):=by
    intro k J
    rintro (h|rfl)
    .exact C k J h
    omega
   refine ih _ _ a' w' (by simpa using A) R I T ?_
   by_cases ab:∃ q,q<fl.length/\q<l.length/\fl.getD q false=false/\¬ (D q\/q=i)
   .exact .inl ⟨ab,r,X⟩
   have d:∀ q,q<fl.length->q<l.length->fl.getD q false=false->(D q\/q=i):=λq K n y=>by
    apply Ŝ; intro hh; exact ab ⟨q,K,n,y,hh⟩
   exact .inr ⟨fl.length,č _,d,λk _ _ _=>by omega,r,nK _ a' w' I d r X⟩
  rcases Ś i fl.length with u|u
  .have ah:fl.getD i false=true:=by
    cases H:fl.getD i false
    .exact absurd (W i u U H) v
    rfl
   refine wpOp_mono (λa' w' X=>?_) (float D a w m i o S u N ah s v G h4)
   refine ih _ _ a' w' (by simpa using A) R I T (.inr ⟨m,N,λq K n y=>.inl (W q K n y),λq K ae n=>.inl (O q K ae n),λk J=>?_,X⟩)
   rintro (h|rfl)
   .exact F k J h
   omega
  have ai:i=m:=by
   rcases fO i m with h|h|h
   .exact absurd (O i u h U) v
   .exact h
   exact absurd (QM hT S u s G m h (by rw[Ķ,Ĺ N]; rfl)) (F m (č _))
  subst ai
  refine wpOp_mono (λa' w' X=>?_) (tail D a w i o S N s F G h4)
  refine ih _ _ a' w' (by simpa using A) R I T (.inr ⟨i+1,by omega,λq K n y=>.inl (W q K n y),λq K ae n=>?_,λk J=>?_,X⟩)
  .rcases Ś q i with h|h
   .exact .inl (O q K h n)
   exact .inr (by omega)
  rintro (h|rfl)
  .exact F k (by omega) h
  omega
theorem WI{a:Act}{w:World}(Inv:(Nat->Prop)->Act->World->Prop)(c:(Nat->Prop)->Nat->Act->World->Prop)(s:oO .any l=true)(t:lE .any l fl=true)
  (r:Inv (λ_=>False) a { w with drawn:=w.drawn+1 })
  (step:∀ (D:Nat->Prop) a w i o,jW .any l.toArray D->(∀ k,fl.length<=k->¬ D k)->i<fl.length->l[i]? = some o->¬ D i->(∀ e ∈ o.after,Region.binds .any e=true->D e.on)->Inv D a w->
   wpOp P l.toArray Q i (λa' w'=>Inv (λj=>D j\/j=i) a' w') a w)
  (nK:∀ (D:Nat->Prop) a w,jW .any l.toArray D->(∀ i,i<fl.length->i<l.length->fl.getD i false=false->D i)->(∀ k,fl.length<=k->¬ D k)->Inv D a w->c D fl.length a w)
  (tail:∀ (D:Nat->Prop) a w m o,jW .any l.toArray D->fl.length<=m->l[m]? = some o->(∀ k,m<=k->¬ D k)->(∀ e ∈ o.after,Region.binds .any e=true->D e.on)->c D m a w->
   wpOp P l.toArray Q m (λa' w'=>c (λj=>D j\/j=m) (m+1) a' w') a w)
  (float:∀ (D:Nat->Prop) a w m i o,jW .any l.toArray D->i<fl.length->fl.length<=m->fl.getD i false=true->l[i]? = some o->¬ D i->(∀ e ∈ o.after,Region.binds .any e=true->D e.on)->c D m a w->
   wpOp P l.toArray Q i (λa' w'=>c (λj=>D j\/j=i) m a' w') a w)
  (p:∀ (D:Nat->Prop) a w m,(∀ i,i<l.length->D i)->l.length<=m->c D m a w->Q .normal a w) :
  wpAny P .any l.toArray Q l.toArray.size (Array.replicate l.toArray.size false) a { w with drawn:=w.drawn+1 }:=by
 refine (ZsW Inv c s t step nK tail float p _ _ (λ_=>False) a _ (by simp) (λi=>?_) (λ_ _ _ h=>h.elim) ?_ ?_)
 .constructor
  .exact False.elim
  intro h
  simp only[Ÿ,abj] at h
  split at h <;> simp at h
 .unfold nw
  have:=ĺ (λi=>!(Array.replicate l.toArray.size false).getD i false) (List.range l.length)
  simpa using this
 by_cases f:∃ i,i<fl.length/\i<l.length/\fl.getD i false=false
 .obtain⟨i,g,n,q⟩:=f
  exact .inl ⟨⟨i,g,n,q,λh=>h⟩,λ_ _ h=>h,r⟩
 have d:∀ i,i<fl.length->i<l.length->fl.getD i false=false->False:=λi g n q=>f ⟨i,g,n,q⟩
 exact .inr ⟨fl.length,č _,d,λi g n _=>by omega,λ_ _ h=>h,nK _ a _ (λ_ _ _ h=>h.elim) d (λ_ _ h=>h) r⟩
end
open Go.RowKit
abbrev Mem:=Nat->Nat->ŀ Value
def Mem.le(G G':Mem):Prop:=∀ b o v,G b o=some v->G' b o=some v
theorem Mem.le_refl(G:Mem):Mem.le G G:=λ_ _ _ h=>h
theorem Mem.le_trans{A B C:Mem}(h:Mem.le A B)(k:Mem.le B C):Mem.le A C:=λb o v e=>k b o v (h b o v e)
def sa(G:Mem)(w:World):Prop:=∀ b o v,G b o=some v->w.cell? ⟨b,o,none⟩=some v
theorem sa.lt{G:Mem}{w:World}(h:sa G w){b o:Nat}{v:Value}(e:G b o=some v):b<w.heap.size:=x9 w _ (h b o v e)
structure Ow where
 b:Nat
 o:Obj
 m:Nat
abbrev Lo:=Ŀ (Nat×ŀ Ow)
def Lo.get:Lo->Nat->ŀ Ow
 | [],_=>none
 | p::r,i=>bif Nat.beq p.1 i then p.2 else Lo.get r i
def Lo.sub(L' L:Lo):Prop:=∀ i x,L'.get i=some x->L.get i=some x
theorem Lo.Zs(L:Lo):Lo.sub [] L:=λt v h=>by simp[Lo.get] at h
theorem Lo.tg(L:Lo):Lo.sub L L:=λ_ _ h=>h
theorem Lo.Zn{L:Lo}{i j:Nat}{x:ŀ Ow}:Lo.get ((i,x)::L) j=if i=j then x else L.get j:=by
 simp only[Lo.get]
 by_cases e:i=j
 .subst e; simp
 have:Nat.beq i j=false:=by cases a:Nat.beq i j; rfl; exact absurd (ŏ a) e
 simp[this,e]
theorem Lo.Ze{L' L:Lo}{i:Nat}{x:ŀ Ow}(h:L.get i=x)(c:Lo.sub L' L):Lo.sub ((i,x)::L') L:=by
 intro u y a
 rw[Lo.Zn] at a
 split at a
 .rename_i e; subst e; rw[h]; exact a
 exact c u y a
theorem Lo.Fl{L' L:Lo}{i:Nat}(c:Lo.sub L' L):Lo.sub ((i,none)::L') L:=by
 intro u y a
 rw[Lo.Zn] at a
 split at a
 .cases a
 exact c u y a
def Lo.own(L:Lo)(b o:Nat):Prop:=∃ i y,L.get i=some y/\y.b=b/\y.m<=o
theorem Lo.Kf{b o:Nat}(h:Lo.own [] b o):False:=by obtain⟨i,y,a,_⟩:=h; simp[Lo.get] at a
structure Bs where
 w:World
 L:Lo
structure St (w0:Bs) (G0 G:Mem) (L:Lo) (w:World):Prop where
 os:w.os=w0.w.os
 tape:w.tape=w0.w.tape
 output:w.output=w0.w.output
 drawn:w0.w.drawn<=w.drawn
 size:w0.w.heap.size<=w.heap.size
 block:∀ k,k<w0.w.heap.size->(∀ i y,w0.L.get i=some y->y.b≠k)->w.heap[k]? = w0.w.heap[k]?
 base:Mem.le G0 G
 ls:sa G w
 fresh:∀ b o v,G b o=some v->G0 b o=some v\/w0.w.heap.size<=b\/w0.L.own b o
 loc:∀ i x,L.get i=some x->w.heap[x.b]? = some x.o/\((∃ y,w0.L.get i=some y/\y.b=x.b)\/w0.w.heap.size<=x.b)/\∀ k,x.m<=k->G x.b k=none
 gY:∀ i j x y,i≠j->L.get i=some x->L.get j=some y->x.b≠y.b
theorem St.weaken{w0:Bs}{G0 G:Mem}{L L':Lo}{w:World}(h:St w0 G0 G L w)(c:Lo.sub L' L):St w0 G0 G L' w:=
 { h with loc:=λi x e=>h.loc i x (c _ _ e),gY:=λi j x y a e e'=>h.gY i j x y a (c _ _ e) (c _ _ e') }
theorem St.jt{w0:Bs}{G0 G G':Mem}{L:Lo}{w:World}(h:St w0 G0 G' L w)(c:Mem.le G0 G)(a:Mem.le G G'):St w0 G0 G L w:=
 { h with
  base:=c
  ls:=λb o v e=>h.ls b o v (a b o v e)
  fresh:=λb o v e=>h.fresh b o v (a b o v e)
  loc:=λi x e=>⟨(h.loc i x e).1,(h.loc i x e).2.1,λk f=>by
   have:=(h.loc i x e).2.2 k f
   cases d:G x.b k with
   | none=>rfl
   | some v=>rw[a x.b k v d] at this; cases this⟩ }
theorem St.drew{w0:Bs}{G0 G:Mem}{L:Lo}{w:World}(h:St w0 G0 G L w):St w0 G0 G L { w with drawn:=w.drawn+1 }:=
 ⟨h.os,h.tape,h.output,Nat.le_succ_of_le h.drawn,h.size,h.block,h.base,h.ls,h.fresh,h.loc,h.gY⟩
structure Hp (G:Mem) (L:Lo) (w:World):Prop where
 ls:sa G w
 loc:∀ i x,L.get i=some x->w.heap[x.b]? = some x.o/\∀ k,x.m<=k->G x.b k=none
 gY:∀ i j x y,i≠j->L.get i=some x->L.get j=some y->x.b≠y.b
structure Ext (w:World) (G:Mem) (L:Lo) (w':World) (G':Mem) (L':Lo):Prop where
 os:w'.os=w.os
 tape:w'.tape=w.tape
 output:w'.output=w.output
 drawn:w.drawn<=w'.drawn
 size:w.heap.size<=w'.heap.size
 block:∀ k,k<w.heap.size->(∀ i y,L.get i=some y->y.b≠k)->w'.heap[k]? = w.heap[k]?
 le:Mem.le G G'
 ls:sa G' w'
 fresh:∀ b o v,G' b o=some v->G b o=some v\/w.heap.size<=b\/L.own b o
 loc:∀ i x,L'.get i=some x->w'.heap[x.b]? = some x.o/\((∃ y,L.get i=some y/\y.b=x.b)\/w.heap.size<=x.b)/\∀ k,x.m<=k->G' x.b k=none
 gY:∀ i j x y,i≠j->L'.get i=some x->L'.get j=some y->x.b≠y.b
theorem St.ext{w0:Bs}{G0 G G':Mem}{L p u R H:Lo}{w w':World}(h:St w0 G0 G L w)(e:Ext w G p w' G' u)(n:Lo.sub p L)(m:Lo.sub R L)(D:∀ i x,R.get i=some x->p.get i=none)
  (N:∀ i x y,p.get i=some x->L.get i=some y->∀ z,w0.L.get i=some z->z.m<=x.m)
  (A:∀ i x,H.get i=some x->u.get i=some x\/R.get i=some x):St w0 G0 G' H w':=by
 have lt:∀ i x,L.get i=some x->x.b<w.heap.size:=λi x hi=>(Ĉ.1 (h.loc i x hi).1).1
 have rest:∀ i x,R.get i=some x->w'.heap[x.b]? = some x.o/\((∃ y,w0.L.get i=some y/\y.b=x.b)\/w0.w.heap.size<=x.b)/\∀ k,x.m<=k->G' x.b k=none:=by
  intro i x hi
  obtain⟨t,l,F⟩:=h.loc i x (m _ _ hi)
  have J:=lt i x (m _ _ hi)
  have c:∀ j y,p.get j=some y->y.b≠x.b:=λj y d=>by
   have B:j≠i:=λe'=>by subst e'; rw[D j _ hi] at d; cases d
   exact h.gY j i y x B (n _ _ d) (m _ _ hi)
  refine⟨?_,l,λk C=>?_⟩
  .rw[e.block x.b J c]; exact t
  cases K:G' x.b k with
  | none=>rfl
  | some v=>
   rcases e.fresh x.b k v K with h'|h'|⟨j,y,d,s,_⟩
   .rw[F k C] at h'; cases h'
   .omega
   exact absurd s (c j y d)
 have q:∀ i x,u.get i=some x\/R.get i=some x->w'.heap[x.b]? = some x.o/\((∃ y,w0.L.get i=some y/\y.b=x.b)\/w0.w.heap.size<=x.b)/\∀ k,x.m<=k->G' x.b k=none:=by
  intro i x r
  rcases r with r|r
  .obtain⟨t,l,F⟩:=e.loc i x r
   refine⟨t,?_,F⟩
   rcases l with ⟨y,s,g⟩|l
   .rcases (h.loc i y (n _ _ s)).2.1 with ⟨z,f,a⟩|f
    .exact .inl ⟨z,f,a.trans g⟩
    exact .inr (by rw[<- g]; exact f)
   exact .inr (ł h.size l)
  exact rest i x r
 refine⟨e.os.trans h.os,e.tape.trans h.tape,e.output.trans h.output,ł h.drawn e.drawn,ł h.size e.size,λk C I=>?_,Mem.le_trans h.base e.le,e.ls,λb o v O=>?_,λi x hi=>q i x (A i x hi),λi j x y c hi d=>?_⟩
 .have P:=h.size
  rw[e.block k (by omega) (λi y hi s=>?_)]
  .exact h.block k C I
  obtain⟨t,l,_⟩:=h.loc i y (n _ _ hi)
  rcases l with ⟨z,l,a⟩|l
  .exact I i z l (a.trans s)
  omega
 .rcases e.fresh b o v O with h'|h'|⟨i,y,hi,g,E⟩
  .exact h.fresh b o v h'
  .exact .inr (.inl (ł h.size h'))
  rcases (h.loc i y (n _ _ hi)).2.1 with ⟨z,f,a⟩|f
  .exact .inr (.inr ⟨i,z,f,a.trans g,ł (N i y y hi (n _ _ hi) z f) E⟩)
  exact .inr (.inl (by rw[<- g]; exact f))
 rcases A i x hi with hi|hi <;> rcases A j y d with d|d
 .exact e.gY i j x y c hi d
 .rcases (e.loc i x hi).2.1 with ⟨z,f,a⟩|f
  .rw[<- a]; exact h.gY i j z y c (n _ _ f) (m _ _ d)
  have:=lt j y (m _ _ d); omega
 .rcases (e.loc j y d).2.1 with ⟨z,f,a⟩|f
  .rw[<- a]; exact h.gY i j x z c (m _ _ hi) (n _ _ f)
  have:=lt i x (m _ _ hi); omega
 exact h.gY i j x y c (m _ _ hi) (m _ _ d)
def me(w0:Bs)(G:Mem)(post:Mem->Lo->Value->Prop)(e:Ending)(w':World):Prop:=∃ r G' L',e = .returned r/\Ext w0.w G w0.L w' G' L'/\post G' L' r
abbrev AM(w0:Bs)(G:Mem)(post:Mem->Value->Prop):=me w0 G (λG' _ r=>post G' r)
def ò(P:Program)(f:FuncId)(args:Array Value)(L:Lo)(a:Mem->Prop)(post:Mem->Lo->Value->Prop):Prop:=
 ∀ w G,Hp G L w->a G->Calls P f args w (me ⟨w,L⟩ G post)
abbrev ä(P:Program)(f:FuncId)(args:Array Value)(a:Mem->Prop)(post:Mem->Value->Prop):Prop:=ò P f args [] a (λG _ r=>post G r)
theorem ò.mono{P:Program}{f:FuncId}{args:Array Value}{L:Lo}{c a:Mem->Prop}{post post':Mem->Lo->Value->Prop}(h:ò P f args L c post)(hp:∀ G,a G->c G)
  (j:∀ G L r,post G L r->post' G L r):ò P f args L a post':=λw G hi i=>(h w G hi (hp G i)).mono λ_ _ ⟨r,G',L',d,e,g⟩=>⟨r,G',L',d,e,j _ _ _ g⟩
def og(P:Program):Result Next->(Value->World->Prop)->Prop
 | .ok (.value v) w',Φ=>Φ v w'
 | .ok .skip w',Φ=>Φ undef w'
 | .ok (.enter f args) w',Φ=>Calls P f args w' (λe a=>∃ r,e = .returned r/\Φ r a)
 | _,_=>False
theorem og.mono{P:Program}{r:Result Next}{Φ a:Value->World->Prop}(h:og P r Φ)(c:∀ v w,Φ v w->a v w):og P r a:=by
 cases r with
 | ok n w=>
  cases n <;> simp only[og] at h ⊢
  case value v=>exact c _ _ h
  case skip=>exact c _ _ h
  case enter f args=>exact h.mono λe i ⟨r,d,g⟩=>⟨r,d,c _ _ g⟩
 | halt x w=>exact h
theorem og.wp{P:Program}{o:Oper}{a:Act}{w:World}{Φ:Value->World->Prop}{K:Act->World->Prop}{Q:õ}(h:og P ((execOp a.eval o).run P w) Φ)(c:∀ v w',Φ v w'->K (a.put o.dst v) w'):o.wp P a w K Q:=by
 unfold Oper.wp
 generalize (execOp a.eval o).run P w=r at h ⊢
 cases r with
 | ok n w'=>
  cases n <;> simp only[og] at h <;> simp only[Oper.upon]
  case value v=>exact c _ _ h
  case skip=>exact c _ _ h
  case enter f args=>exact h.mono λe i ⟨r,d,g⟩=>by subst d; exact c _ _ g
 | halt x w=>exact h.elim
def YR(P:Program)(N:Nat)(o:Oper)(fr:Fr)(S:Υ)(Φ:Value->World->Prop):Prop:=∀ a w,Rel N fr a->S w->og P ((execOp a.eval o).run P w) Φ
section
variable {P:Program}{N:Nat}{Q:õ}{fr:Fr}{S:Υ}{ops:Array Oper}{l:Ŀ Oper}
theorem WL.yr{dst:ŀ Nat}{op:Op}{ty:TypeId}{pos:String}{af:Array Edge}{g:ŀ (Nat×Bool)}{Φ:Value->Υ}
  (e:κ ops fr ⟨dst,op,ty,pos,af,g⟩ true) (h:YR P N ⟨dst,op,ty,pos,af,g⟩ fr S Φ) (d:è N dst) (k:∀ v,WL P N ops Q l (ξ dst v fr) (Φ v)):WL P N ops Q (⟨dst,op,ty,pos,af,g⟩::l) fr S:=by
 intro a w c f
 unfold wpList
 rw[Ă (c.wanted e)]
 exact .inl ((h a w c f).wp λv w' i=>k v _ w' (c.ξ v d) i)
end
def NX(Q:õ):õ:=λe a w=>match e with | .normal=>Q .normal a w|_=>False
theorem WE.nx{N:Nat}{Q:õ}{fr:Fr}{S:Υ}(h:WE N Q .normal fr S):WE N (NX Q) .normal fr S:=h
abbrev Xm:=Nat->ŀ (Nat×Obj)
structure Gx where
 m:Mem
 x:Xm
def Gx.of(G:Mem):Gx:=⟨G,λ_=>none⟩
def Gx.le(g g':Gx):Prop:=Mem.le g.m g'.m/\∀ b y,g.x b=some y->g'.x b=some y
theorem Gx.le_refl(g:Gx):Gx.le g g:=⟨Mem.le_refl _,λ_ _ h=>h⟩
theorem Gx.le_trans{a b c:Gx}(h:Gx.le a b)(k:Gx.le b c):Gx.le a c:=⟨Mem.le_trans h.1 k.1,λx y e=>k.2 x y (h.2 x y e)⟩
def Gx.sB(d:Nat)(g g':Gx):Prop:=Mem.le g.m g'.m/\∀ b o,g.x b=some (d,o)->g'.x b=some (d,o)
def Gx.ra(k:ŀ Nat)(g g':Gx):Prop:=Mem.le g.m g'.m/\∀ b i o,g.x b=some (i,o)->k≠some i->g'.x b=some (i,o)
theorem Gx.le.ra{g g':Gx}(h:Gx.le g g'):Gx.ra none g g':=⟨h.1,λb i o e _=>h.2 b _ e⟩
theorem Gx.ra.le{g g':Gx}(h:Gx.ra none g g'):Gx.le g g':=⟨h.1,λb y e=>h.2 b y.1 y.2 e (by simp)⟩
theorem Gx.ra.sB{g g':Gx}{k:ŀ Nat}{d:Nat}(h:Gx.ra k g g')(a:k≠some d):Gx.sB d g g':=⟨h.1,λb o e=>h.2 b d o e a⟩
theorem Gx.Zvx{G:Mem}{g g':Gx}{k:ŀ Nat}(h:Gx.le (Gx.of G) g)(h':Gx.ra k g g'):Gx.le (Gx.of G) g':=⟨Mem.le_trans h.1 h'.1,λb y e=>by cases e⟩
structure jO (w0:Bs) (G0:Mem) (g:Gx) (L:Lo) (w:World):Prop where
 st:St w0 G0 g.m L w
 own:∀ b i o,g.x b=some (i,o)->w.heap[b]? = some o/\w0.w.heap.size<=b/\(∀ k,g.m b k=none)/\∀ j y,L.get j=some y->y.b≠b
theorem jO.of{w0:Bs}{G0 G:Mem}{L:Lo}{w:World}(h:St w0 G0 G L w):jO w0 G0 (Gx.of G) L w:=⟨h,λb i o e=>by cases e⟩
abbrev mK:=Ŀ (Nat×(Value->Gx->Prop))
def ψ:mK->(Nat->Value)->Fr
 | [],_=>[]
 | p::r,u=>(p.1,u p.1)::ψ r u
def oa:mK->(Nat->Value)->Gx->Prop
 | [],_,_=>True
 | p::r,u,G=>p.2 (u p.1) G/\oa r u G
def ô(ops:Array Oper)(o:Oper):mK->(Nat->Value)->Gx->Prop
 | [],_,_=>True
 | p::r,u,G=>(bif (o.looksAt ops).contains p.1 then p.2 (u p.1) G else True)/\ô ops o r u G
def mS:ŀ Nat->mK->mK
 | none,Ω=>Ω
 | some k,Ω=>Ω.map λp=>(p.1,λv g=>bif Nat.beq p.1 k then True else p.2 v g)
def oU(ops:Array Oper)(k:Nat):Bool:=Nat.ble (ops.toList.filter λo=>(o.looksAt ops).contains k).length 1
def jQ(P:Program)(ops:Array Oper)(T:Υ)(Q:õ):Ŀ Oper->Act->World->Prop
 | [],a,w=>T w/\Q .normal a w
 | o::r,a,w=>T w/\if Region.wanted o (yielded ops a.tmps) then o.wp P a w (jQ P ops T Q r) Q else jQ P ops T Q r (a.put o.dst undef) w
def jc(P:Program)(N:Nat)(ops:Array Oper)(T:Υ)(Q:õ)(l:Ŀ Oper)(fr:Fr)(S:Υ):Prop:=∀ a w,Rel N fr a->S w->jQ P ops T Q l a w
theorem Oper.QQ{P:Program}{o:Oper}{a:Act}{w:World}{K K':Act->World->Prop}{Q:õ}(g:∀ a w,K a w->K' a w)(h:o.wp P a w K Q):o.wp P a w K' Q:=by
 unfold Oper.wp at h ⊢
 generalize (execOp a.eval o).run P w=r at h ⊢
 cases r with
 | ok x w'=>
  cases x <;> simp only[Oper.upon] at h ⊢
  case value v=>exact g _ _ h
  case skip=>exact g _ _ h
  case defer d=>exact g _ _ h
  case enter f args=>
   refine aas h λe j i=>?_
   cases e with
   | returned v=>exact g _ _ i
   | panicked c=>exact i
   | outgrown=>exact i
  case row row args=>exact Rows.mono h λv j i=>g _ _ i
 | halt x w'=>cases x <;> simp only[Oper.upon] at h ⊢; exact h
theorem IK{P:Program}{ops:Array Oper}{Q:õ}:∀ (l:Ŀ Oper) (a:Act) (w:World),wpList P ops (NX Q) l a w->jQ P ops (λ_=>True) (NX Q) l a w
 | [],a,w,h=>⟨trivial,h⟩
 | o::r,a,w,h=>by
  unfold wpList at h
  refine⟨trivial,?_⟩
  split at h
  .rename_i c
   rw[Ă c]
   rcases h with h|⟨_,d,e,f⟩
   .exact Oper.QQ (λa w=>IK r a w) h
   exact f.elim
  rename_i c
  rw[Ā c]
  exact IK r _ _ h
theorem jc.of{P:Program}{N:Nat}{ops:Array Oper}{Q:õ}{l:Ŀ Oper}{fr:Fr}{S:Υ}(h:WL P N ops (NX Q) l fr S):jc P N ops (λ_=>True) (NX Q) l fr S:=λa w c d=>IK l a w (h a w c d)
section
variable (P:Program) (N:Nat) (Q:õ) (fr:Fr) (w0:Bs) (G0 G:Mem) (L:Lo) (ops:Array Oper) (Bt:Υ)
def rB(k:ŀ Nat)(F:Fr)(G':Gx)(o:Oper)(Ψ:Value->Gx->Prop):Prop:=
 (κ ops F o false/\k=none/\Ψ undef G')\/
 (κ ops F o true/\YR P N o F (jO w0 G0 G' L) (λv w'=>∃ a,Gx.ra k G' a/\jO w0 G0 a L w'/\Ψ v a))
def jR(F:Fr)(G':Gx)(o:Oper)(Ψ:Value->Gx->Prop):Prop:=
 (κ ops F o false/\Ψ undef G')\/
 (κ ops F o true/\YR P N o F (jO w0 G0 G' L) (λv w'=>∃ a,Gx.le G' a/\jO w0 G0 a L w'/\Ψ v a))
def η:Ŀ Bool->Ŀ Oper->Fr->mK->Prop
 | [],rest,Χ,Ω=>∀ u G',Gx.le (Gx.of G) G'->oa Ω u G'->jc P N ops Bt (NX Q) rest (ψ Ω u++(Χ++fr)) (jO w0 G0 G' L)
 | _::_,[],Χ,Ω=>∀ u G',Gx.le (Gx.of G) G'->oa Ω u G'->jc P N ops Bt (NX Q) [] (ψ Ω u++(Χ++fr)) (jO w0 G0 G' L)
 | true::fs,o::r,Χ,Ω=>
  (∃ c,(∀ u G',Gx.le (Gx.of G) G'->ô ops o Ω u G'->κ ops (ψ Ω u++(Χ++fr)) o true/\Y0 P N o (ψ Ω u++(Χ++fr)) Bt c)/\η fs r (ξ o.dst c Χ) Ω)\/
  (∃ d φ,∃ c:(Nat->Value)->Value,o.dst=some d/\(∀ v a e,Gx.sB d a e->φ v a->φ v e)/\(∀ u f:Nat->Value,(∀ t,t ∈ o.looksAt ops->u t=f t)->c u=c f)/\(∀ u G',Gx.le (Gx.of G) G'->ô ops o Ω u G'->κ ops (ψ Ω u++(Χ++fr)) o true/\Y0 P N o (ψ Ω u++(Χ++fr)) Bt (c u)/\φ (c u) G')/\η fs r Χ ((d,φ)::Ω))
 | false::fs,o::r,Χ,Ω=>
  (∃ c,(∀ u G',Gx.le (Gx.of G) G'->ô ops o Ω u G'->jR P N w0 G0 L ops (ψ Ω u++(Χ++fr)) G' o (λv _=>v=c))/\η fs r (ξ o.dst c Χ) Ω)\/
  (∃ d φ,o.dst=some d/\(∀ v a e,Gx.sB d a e->φ v a->φ v e)/\(∀ u G',Gx.le (Gx.of G) G'->ô ops o Ω u G'->jR P N w0 G0 L ops (ψ Ω u++(Χ++fr)) G' o φ)/\η fs r Χ ((d,φ)::Ω))\/
  (∃ d φ k,o.dst=some d/\Ω.any (λp=>Nat.beq p.1 k)=true/\(o.looksAt ops).contains k=true/\oU ops k=true/\(∀ v a e,Gx.sB d a e->φ v a->φ v e)/\(∀ u G',Gx.le (Gx.of G) G'->ô ops o Ω u G'->rB P N w0 G0 L ops (some k) (ψ Ω u++(Χ++fr)) G' o φ)/\η fs r Χ ((d,φ)::mS (some k) Ω))
theorem jR.o{P:Program}{N:Nat}{w0:Bs}{G0:Mem}{L:Lo}{ops:Array Oper}{F:Fr}{G':Gx}{o:Oper}{Ψ:Value->Gx->Prop}(h:jR P N w0 G0 L ops F G' o Ψ):rB P N w0 G0 L ops none F G' o Ψ:=
 h.imp (λh=>⟨h.1,rfl,h.2⟩) λh=>⟨h.1,λa w f i=>(h.2 a w f i).mono λ_ _ ⟨g,c,d,e⟩=>⟨g,c.ra,d,e⟩⟩
end
abbrev iy:=Value⊕(ŀ Nat×(Value->Gx->Prop))
def iy.val(e:iy)(u:Nat->Value)(t:Nat):Value:=match e with | .inl c=>c | .inr _=>u t
def iy.post:iy->Value->Gx->Prop
 | .inl c=>λv _=>v=c
 | .inr φ=>φ.2
def iy.oN:iy->ŀ Nat
 | .inl _=>none
 | .inr φ=>φ.1
abbrev vU:=Ŀ (Oper×iy)
def gM:vU->Fr->Fr
 | [],Χ=>Χ
 | (o,.inl c)::r,Χ=>gM r (ξ o.dst c Χ)
 | (_,.inr _)::r,Χ=>gM r Χ
def Ä:vU->mK->mK
 | [],Ω=>Ω
 | (_,.inl _)::r,Ω=>Ä r Ω
 | (o,.inr φ)::r,Ω=>Ä r (match o.dst with|some d=>(d,φ.2)::mS φ.1 Ω|none=>Ω)
theorem EC{k:ŀ Nat}{Ω:mK}{p:Nat×(Value->Gx->Prop)}(h:p ∈ mS k Ω):∃ q ∈ Ω,p.1=q.1/\∀ v g,(k≠some q.1->p.2 v g=q.2 v g)/\(k=some q.1->p.2 v g=True):=by
 cases k with
 | none=>exact⟨p,h,rfl,λv g=>⟨λ_=>rfl,λe=>by cases e⟩⟩
 | some k=>
  obtain⟨q,d,rfl⟩:=ă.1 h
  refine⟨q,d,rfl,λv g=>⟨λa=>?_,λe=>?_⟩⟩
  .have:Nat.beq q.1 k=false:=by cases c:Nat.beq q.1 k; rfl; exact absurd (ć some (ŏ c).symm) a
   simp only[this,cond_false]
  cases e
  simp
theorem ZsP(k:ŀ Nat)(u:Nat->Value):∀ Ω:mK,ψ (mS k Ω) u=ψ Ω u:=by
 cases k with
 | none=>exact λ_=>rfl
 | some k=>
  intro Ω
  induction Ω with
  | nil=>rfl
  | cons p r a=>simp only[mS,ė,ψ] at a ⊢; rw[a]
theorem Fr.get_append(A B:Fr)(t:Nat):Fr.get (A++B) t=(A.get t).or (B.get t):=by
 induction A with
 | nil=>simp[Fr.get]
 | cons p A a=>
  simp only[Ħ,Fr.get]
  cases Nat.beq p.1 t <;> simp[a]
theorem Fr.Zn(t:Nat)(v:Value)(A:Fr)(s:Nat):Fr.get ((t,v)::A) s=if t=s then some v else A.get s:=by
 simp only[Fr.get]
 by_cases e:t=s
 .subst e; simp
 have:Nat.beq t s=false:=by cases a:Nat.beq t s; rfl; exact absurd (ŏ a) e
 simp[this,e]
theorem Vy{Ω:mK}{u:Nat->Value}{t:Nat}(h:∀ p ∈ Ω,p.1≠t):(ψ Ω u).get t=none:=by
 induction Ω with
 | nil=>rfl
 | cons p r c=>
  simp only[ψ]
  rw[Fr.Zn,Ā (h p (by simp))]
  exact c (λq a=>h q (by simp[a]))
section
variable {fr:Fr}{u:Nat->Value}
theorem Ji:∀ (T:vU) (Χ:Fr) (Ω:mK) (t:Nat),(∀ p ∈ Ω,∀ q ∈ T,q.1.dst≠some p.1)->(∀ (f g:Nat) (h i:Oper×iy) (d:Nat),T[f]? = some h->T[g]? = some i->h.1.dst=some d->i.1.dst=some d->f=g)->(∀ q ∈ T,∀ φ,q.2 = .inr φ->q.1.dst.isSome=true)->
  ((∀ q ∈ T,q.1.dst≠some t)->Fr.get (ψ (Ä T Ω) u++(gM T Χ++fr)) t=Fr.get (ψ Ω u++(Χ++fr)) t)/\
  (∀ q ∈ T,q.1.dst=some t->Fr.get (ψ (Ä T Ω) u++(gM T Χ++fr)) t=some (q.2.val u t))
 | [],Χ,Ω,t,_,_,_=>⟨λ_=>rfl,λq l=>by simp at l⟩
 | (o,.inl c)::r,Χ,Ω,t,D,B,E=>by
  have v:∀ f g (h i:Oper×iy) d,r[f]? = some h->r[g]? = some i->h.1.dst=some d->i.1.dst=some d->f=g:=λf g h i d a b c d'=>by
   have:=B (f+1) (g+1) h i d (by simpa using a) (by simpa using b) c d'
   omega
  obtain⟨s,A⟩:=Ji r (ξ o.dst c Χ) Ω t (λp hp q l=>D p hp q (by simp[l])) v (λq l=>E q (by simp[l]))
  simp only[gM,Ä]
  refine⟨λw=>?_,λq l m=>?_⟩
  .rw[s (λq l=>w q (by simp[l]))]
   have I:o.dst≠some t:=w (o,.inl c) (by simp)
   rw[Fr.get_append,Fr.get_append,Fr.get_append,Fr.get_append]
   congr 2
   cases m:o.dst with
   | none=>rfl
   | some d=>simp only[ξ]; rw[Fr.Zn,Ā (λe=>I (by rw[m,e]))]
  rcases ą.1 l with rfl|l
  .have w:∀ q ∈ r,q.1.dst≠some t:=λq y G=>by
    obtain⟨j,H⟩:=aaS y
    have:=B 0 (j+1) (o,.inl c) q t (by simp) (by simpa using H) m G
    omega
   rw[s w,Fr.get_append,Vy (λp hp e=>D p hp (o,.inl c) (by simp) (by rw[m,e])),Fr.get_append]
   simp only at m
   rw[m]
   simp[ξ,Fr.Zn,iy.val]
  exact A q l m
 | (o,.inr φ)::r,Χ,Ω,t,D,B,E=>by
  have v:∀ f g (h i:Oper×iy) d,r[f]? = some h->r[g]? = some i->h.1.dst=some d->i.1.dst=some d->f=g:=λf g h i d a b c d'=>by
   have:=B (f+1) (g+1) h i d (by simpa using a) (by simpa using b) c d'
   omega
  obtain⟨d,n⟩:=ū.1 (E (o,.inr φ) (by simp) φ rfl)
  simp only at n
  have C:∀ q ∈ r,q.1.dst≠some d:=λq y G=>by
   obtain⟨j,H⟩:=aaS y
   have:=B 0 (j+1) (o,.inr φ) q d (by simp) (by simpa using H) n G
   omega
  obtain⟨s,A⟩:=Ji r Χ ((d,φ.2)::mS φ.1 Ω) t (λp hp q l=>by
   rcases ą.1 hp with rfl|hp
   .exact C q l
   obtain⟨p0,J,e,_⟩:=EC hp
   rw[e]
   exact D p0 J q (by simp[l])) v (λq l=>E q (by simp[l]))
  simp only[gM,Ä,n]
  refine⟨λw=>?_,λq l m=>?_⟩
  .rw[s (λq l=>w q (by simp[l]))]
   have I:o.dst≠some t:=w (o,.inr φ) (by simp)
   simp only[ψ,ZsP,Ħ]
   rw[Fr.Zn,Ā (λe=>I (by rw[n,e]))]
  rcases ą.1 l with rfl|l
  .simp only at m
   have F:d=t:=by rw[n] at m; simpa using m
   subst F
   rw[s C]
   simp only[ψ,Ħ]
   rw[Fr.Zn,Ă rfl]
   rfl
  exact A q l m
theorem xS:∀ (T:vU) (Ω:mK) (p:Nat×(Value->Gx->Prop)),p ∈ Ä T Ω->(∃ q,q ∈ Ω/\p.1=q.1/\(¬ (∀ v g,p.2 v g)->∀ v g,p.2 v g=q.2 v g)/\(¬ (∀ v g,p.2 v g)->∀ (i:Nat) (q:Oper×iy),T[i]? = some q->q.1.dst.isSome=true->q.2.oN≠some p.1))\/(∀ v g,p.2 v g)\/
  ∃ (j:Nat) (o:Oper) (φ:ŀ Nat×(Value->Gx->Prop)),T[j]? = some (o,(.inr φ:iy))/\o.dst=some p.1/\(∀ v g,p.2 v g=φ.2 v g)/\∀ (i:Nat) (q:Oper×iy),j<i->T[i]? = some q->q.1.dst.isSome=true->q.2.oN≠some p.1
 | [],Ω,p,h=>.inl ⟨p,h,rfl,λ_ _ _=>rfl,λ_ i q a=>by simp at a⟩
 | (o,.inl c)::r,Ω,p,h=>by
  rcases xS r Ω p h with ⟨q,w,m,n,s⟩|h|⟨j,o',φ,w,m,n,s⟩
  .refine .inl ⟨q,w,m,n,λy i q' a l=>?_⟩
   cases i with
   | zero=>simp only[į,Ď] at a; subst a; simp[iy.oN]
   | succ i=>exact s y i q' (by simpa using a) l
  .exact .inr (.inl h)
  refine .inr (.inr ⟨j+1,o',φ,by simpa using w,m,n,λi q hi a=>?_⟩)
  obtain⟨i,rfl⟩:∃ i',i=i'+1:=⟨i-1,by omega⟩
  exact s i q (by omega) (by simpa using a)
 | (o,.inr φ)::r,Ω,p,h=>by
  by_cases f:(∀ v g,p.2 v g)
  .exact .inr (.inl f)
  have u:(∃ (j:Nat) (o:Oper) (φ:ŀ Nat×(Value->Gx->Prop)),r[j]? = some (o,(.inr φ:iy))/\o.dst=some p.1/\(∀ v g,p.2 v g=φ.2 v g)/\∀ (i:Nat) (q:Oper×iy),j<i->r[i]? = some q->q.1.dst.isSome=true->q.2.oN≠some p.1)->
    ∃ (j:Nat) (o':Oper) (t:ŀ Nat×(Value->Gx->Prop)),((o,(.inr φ:iy))::r)[j]? = some (o',(.inr t:iy))/\o'.dst=some p.1/\(∀ v g,p.2 v g=t.2 v g)/\∀ (i:Nat) (q:Oper×iy),j<i->((o,(.inr φ:iy))::r)[i]? = some q->q.1.dst.isSome=true->q.2.oN≠some p.1:=by
   rintro⟨j,o',t,w,m,n,s⟩
   refine⟨j+1,o',t,by simpa using w,m,n,λi q hi a=>?_⟩
   obtain⟨i,rfl⟩:∃ i',i=i'+1:=⟨i-1,by omega⟩
   exact s i q (by omega) (by simpa using a)
  simp only[Ä] at h
  cases A:o.dst with
  | none=>
   rw[A] at h
   rcases xS r _ p h with ⟨q,w,m,n,s⟩|h|h
   .refine .inl ⟨q,w,m,n,λy i q' a l=>?_⟩
    cases i with
    | zero=>simp only[į,Ď] at a; subst a; simp[A] at l
    | succ i=>exact s y i q' (by simpa using a) l
   .exact .inr (.inl h)
   exact .inr (.inr (u h))
  | some d=>
   rw[A] at h
   rcases xS r _ p h with ⟨q,a,m,n,s⟩|h|h
   .rcases ą.1 a with rfl|a
    .refine .inr (.inr ⟨0,o,φ,by simp,by rw[A,m],n f,λi q hi a=>?_⟩)
     obtain⟨i,rfl⟩:∃ i',i=i'+1:=⟨i-1,by omega⟩
     exact s f i q (by simpa using a)
    obtain⟨p0,C,e,D⟩:=EC a
    by_cases B:φ.1=some p0.1
    .exact absurd (λv g=>by rw[n f v g,(D v g).2 B]; trivial) f
    refine .inl ⟨p0,C,m.trans e,λy v g=>by rw[n y v g,(D v g).1 B],λy i q' a l=>?_⟩
    cases i with
    | zero=>simp only[į,Ď] at a; subst a; simp only[iy.oN]; rw[m,e]; exact B
    | succ i=>exact s y i q' (by simpa using a) l
   .exact .inr (.inl h)
   exact .inr (.inr (u h))
theorem ZsO{Ω:mK}{u:Nat->Value}{G:Gx}(h:∀ p ∈ Ω,p.2 (u p.1) G):oa Ω u G:=by
 induction Ω with
 | nil=>trivial
 | cons p r c=>exact⟨h p (by simp),c (λq a=>h q (by simp[a]))⟩
theorem H9{ops:Array Oper}{o:Oper}{Ω:mK}{u:Nat->Value}{G:Gx}(h:∀ p ∈ Ω,p.1 ∈ o.looksAt ops->p.2 (u p.1) G):ô ops o Ω u G:=by
 induction Ω with
 | nil=>trivial
 | cons p r d=>
  refine⟨?_,d (λq c=>h q (by simp[c]))⟩
  cases a:(o.looksAt ops).contains p.1
  .trivial
  exact h p (by simp) (by simpa using a)
end
section
variable {P:Program}{N:Nat}{Q:õ}{fr:Fr}{w0:Bs}{G0 G:Mem}{L:Lo}{ops:Array Oper}
def xu(ops:Array Oper)(T:vU)(Ω:mK):Prop:=∀ (j:Nat) (o:Oper) (e:iy) (k:Nat),T[j]? = some (o,e)->e.oN=some k->(o.looksAt ops).contains k=true/\oU ops k=true/\((∃ p,p ∈ Ω/\p.1=k)\/∃ (i:Nat) (q:Oper×iy),i<j/\T[i]? = some q/\q.1.dst=some k)
theorem BO{T:vU}{o:Oper}{d:iy}{Ω a:mK}(r:∀ k,d.oN=some k->(o.looksAt ops).contains k=true/\oU ops k=true/\∃ p ∈ Ω,p.1=k)
  (t6:xu ops T a)
  (s:∀ p ∈ a,(∃ q ∈ Ω,q.1=p.1)\/o.dst=some p.1):xu ops ((o,d)::T) Ω:=by
 intro j o' e k c n
 cases j with
 | zero=>
  simp only[į,Ď,Ż] at c
  obtain⟨rfl,rfl⟩:=c
  obtain⟨f,g,h⟩:=r k n
  exact⟨f,g,.inl h⟩
 | succ j=>
  simp only[ĭ] at c
  obtain⟨f,g,h⟩:=t6 j o' e k c n
  refine⟨f,g,?_⟩
  rcases h with ⟨p,hp,e⟩|⟨i,q,hi,m,l⟩
  .rcases s p hp with ⟨q,m,e'⟩|l
   .exact .inl ⟨q,m,e'.trans e⟩
   exact .inr ⟨0,(o,d),by omega,by simp,by rw[<- e]; exact l⟩
  exact .inr ⟨i+1,q,by omega,by simpa using m,l⟩
theorem zo{Bt:Υ}(s:∀ (X:Gx) w,Gx.le (Gx.of G) X->jO w0 G0 X L w->Bt w):∀ (fl:Ŀ Bool) (rest:Ŀ Oper) (Χ:Fr) (Ω:mK),η P N Q fr w0 G0 G L ops Bt fl rest Χ Ω->
  ∃ T:vU,T.map (·.1)=rest.take fl.length/\
   (∀ j o e,T[j]? = some (o,e)->∀ u G',Gx.le (Gx.of G) G'->ô ops o (Ä (T.take j) Ω) u G'->rB P N w0 G0 L ops e.oN (ψ (Ä (T.take j) Ω) u++(gM (T.take j) Χ++fr)) G' o e.post)/\
   (∀ q ∈ T,∀ φ,q.2 = .inr φ->∃ d,q.1.dst=some d/\∀ v C D,Gx.sB d C D->φ.2 v C->φ.2 v D)/\
   (∀ j o e,T[j]? = some (o,e)->fl.getD j false=true->(∃ c,e = .inl c/\∀ u G',Gx.le (Gx.of G) G'->ô ops o (Ä (T.take j) Ω) u G'->κ ops (ψ (Ä (T.take j) Ω) u++(gM (T.take j) Χ++fr)) o true/\Y0 P N o (ψ (Ä (T.take j) Ω) u++(gM (T.take j) Χ++fr)) Bt c)\/
    (∃ φ,∃ c:(Nat->Value)->Value,e = .inr (none,φ)/\(∀ u U:Nat->Value,(∀ t,t ∈ o.looksAt ops->u t=U t)->c u=c U)/\∀ u G',Gx.le (Gx.of G) G'->ô ops o (Ä (T.take j) Ω) u G'->κ ops (ψ (Ä (T.take j) Ω) u++(gM (T.take j) Χ++fr)) o true/\Y0 P N o (ψ (Ä (T.take j) Ω) u++(gM (T.take j) Χ++fr)) Bt (c u)/\φ (c u) G'))/\
   (∀ u G',Gx.le (Gx.of G) G'->oa (Ä T Ω) u G'->jc P N ops Bt (NX Q) (rest.drop fl.length) (ψ (Ä T Ω) u++(gM T Χ++fr)) (jO w0 G0 G' L))/\
   xu ops T Ω
 | [],rest,Χ,Ω,h=>⟨[],by simp,by simp,by simp,by simp,by simpa [Ä,gM,η] using h,by intro j o e k g; simp at g⟩
 | f::fs,[],Χ,Ω,h=>⟨[],by simp,by simp,by simp,by simp,by cases f <;> simpa [Ä,gM,η] using h,by intro j o e k g; simp at g⟩
 | true::fs,o::r,Χ,Ω,h=>by
  simp only[η] at h
  rcases h with ⟨c,hp,B⟩|⟨d,φ,c,n,F,K,hp,B⟩
  rotate_left
  .obtain⟨T,t1,t2,t3,t5,t4,t6⟩:=zo s fs r Χ _ B
   refine⟨(o,.inr (none,φ))::T,by simp[t1],λj o' e g=>?_,λq m=>?_,λj o' e g y=>?_,by simpa [Ä,gM,n,mS] using t4,?_⟩
   .cases j with
    | zero=>
     simp only[į,Ď,Ż] at g
     obtain⟨rfl,rfl⟩:=g
     intro u G' i l
     simp only[ŭ,Ä,gM,iy.post] at l ⊢
     obtain⟨V,W,Y⟩:=hp u G' i l
     exact .inr ⟨V,λa w J H=>by rw[W a w J (s _ _ i H)]; exact⟨G',(Gx.le_refl _).ra,H,Y⟩⟩
    | succ j=>
     simp only[ĭ] at g
     simpa [Ä,gM,n,mS] using t2 j o' e g
   .rcases ą.1 m with rfl|m
    .intro I A
     cases A
     exact⟨d,n,F⟩
    exact t3 q m
   .cases j with
    | zero=>
     simp only[į,Ď,Ż] at g
     obtain⟨rfl,rfl⟩:=g
     exact .inr ⟨φ,c,rfl,K,by simpa [Ä,gM] using hp⟩
    | succ j=>
     simp only[ĭ] at g
     simpa [Ä,gM,n,mS] using t5 j o' e g (by simpa using y)
   exact BO (λ_=>by simp[iy.oN]) t6 (λp hp=>by
    rcases ą.1 hp with rfl|hp
    .exact .inr n
    exact .inl ⟨p,hp,rfl⟩)
  obtain⟨T,t1,t2,t3,t5,t4,t6⟩:=zo s fs r _ Ω B
  refine⟨(o,.inl c)::T,by simp[t1],λj o' e g=>?_,λq m=>?_,λj o' e g y=>?_,by simpa [Ä,gM] using t4,?_⟩
  .cases j with
   | zero=>
    simp only[į,Ď,Ż] at g
    obtain⟨rfl,rfl⟩:=g
    intro u G' i l
    simp only[ŭ,Ä,gM,iy.post] at l ⊢
    exact .inr ⟨(hp u G' i l).1,λa w J H=>by rw[(hp u G' i l).2 a w J (s _ _ i H)]; exact⟨G',(Gx.le_refl _).ra,H,rfl⟩⟩
   | succ j=>
    simp only[ĭ] at g
    simpa [Ä,gM] using t2 j o' e g
  .rcases ą.1 m with rfl|m
   .intro φ A; cases A
   exact t3 q m
  .cases j with
   | zero=>
    simp only[į,Ď,Ż] at g
    obtain⟨rfl,rfl⟩:=g
    exact .inl ⟨c,rfl,by simpa [Ä,gM] using hp⟩
   | succ j=>
    simp only[ĭ] at g
    simpa [Ä,gM] using t5 j o' e g (by simpa using y)
  exact BO (λ_=>by simp[iy.oN]) t6 (λp hp=>.inl ⟨p,hp,rfl⟩) 
 | false::fs,o::r,Χ,Ω,h=>by
  simp only[η] at h
  rcases h with ⟨c,hp,B⟩|⟨d,φ,n,F,hp,B⟩|⟨d,φ,k,n,E,O,R,F,hp,B⟩
  .obtain⟨T,t1,t2,t3,t5,t4,t6⟩:=zo s fs r _ Ω B
   refine⟨(o,.inl c)::T,by simp[t1],λj o' e g=>?_,λq m=>?_,λj o' e g y=>?_,by simpa [Ä,gM] using t4,?_⟩
   .cases j with
    | zero=>
     simp only[į,Ď,Ż] at g
     obtain⟨rfl,rfl⟩:=g
     intro u G' i l
     exact (hp u G' i (by simpa [Ä] using l)).o
    | succ j=>
     simp only[ĭ] at g
     simpa [Ä,gM] using t2 j o' e g
   .rcases ą.1 m with rfl|m
    .intro φ A; cases A
    exact t3 q m
   .cases j with
    | zero=>simp at y
    | succ j=>
     simp only[ĭ] at g
     simpa [Ä,gM] using t5 j o' e g (by simpa using y)
   exact BO (λ_=>by simp[iy.oN]) t6 (λp hp=>.inl ⟨p,hp,rfl⟩)
  .obtain⟨T,t1,t2,t3,t5,t4,t6⟩:=zo s fs r Χ _ B
   refine⟨(o,.inr (none,φ))::T,by simp[t1],λj o' e g=>?_,λq m=>?_,λj o' e g y=>?_,by simpa [Ä,gM,n,mS] using t4,?_⟩
   .cases j with
    | zero=>
     simp only[į,Ď,Ż] at g
     obtain⟨rfl,rfl⟩:=g
     intro u G' i l
     exact (hp u G' i (by simpa [Ä] using l)).o
    | succ j=>
     simp only[ĭ] at g
     simpa [Ä,gM,n,mS] using t2 j o' e g
   .rcases ą.1 m with rfl|m
    .intro I A
     cases A
     exact⟨d,n,F⟩
    exact t3 q m
   .cases j with
    | zero=>simp at y
    | succ j=>
     simp only[ĭ] at g
     simpa [Ä,gM,n,mS] using t5 j o' e g (by simpa using y)
   exact BO (λ_=>by simp[iy.oN]) t6 (λp hp=>by
    rcases ą.1 hp with rfl|hp
    .exact .inr n
    exact .inl ⟨p,hp,rfl⟩)
  obtain⟨T,t1,t2,t3,t5,t4,t6⟩:=zo s fs r Χ _ B
  refine⟨(o,.inr (some k,φ))::T,by simp[t1],λj o' e g=>?_,λq m=>?_,λj o' e g y=>?_,by simpa [Ä,gM,n] using t4,?_⟩
  .cases j with
   | zero=>
    simp only[į,Ď,Ż] at g
    obtain⟨rfl,rfl⟩:=g
    intro u G' i l
    exact hp u G' i (by simpa [Ä] using l)
   | succ j=>
    simp only[ĭ] at g
    simpa [Ä,gM,n] using t2 j o' e g
  .rcases ą.1 m with rfl|m
   .intro I A
    cases A
    exact⟨d,n,F⟩
   exact t3 q m
  .cases j with
   | zero=>simp at y
   | succ j=>
    simp only[ĭ] at g
    simpa [Ä,gM,n] using t5 j o' e g (by simpa using y)
  refine BO (λZ S=>?_) t6 (λp hp=>?_)
  .simp only[iy.oN,Ď] at S
   subst S
   simp only[ŕ] at E
   obtain⟨p,hp,e⟩:=E
   exact⟨O,R,⟨p,hp,ŏ e⟩⟩
  rcases ą.1 hp with rfl|hp
  .exact .inr n
  obtain⟨q,m,e,_⟩:=EC hp
  exact .inl ⟨q,m,e.symm⟩
end
def rl(N:Nat)(l:Ŀ Oper)(n:Nat):Bool:=
 let A:=lP .any l []
 let ops:=l.toArray
 let L:=(l.take n).zipIdx
 L.all λp=>(match p.1.dst with
  | none=>true
  | some t=>Nat.blt t N && L.all λq=>Nat.beq p.2 q.2 || ((match q.1.dst with|none=>true|some s=>!Nat.beq t s) &&
    (!((q.1.looksAt ops).contains t) || bif Nat.blt p.2 q.2 then (A.getD q.2 []).contains p.2 else (A.getD p.2 []).contains q.2)))
def k8(l:Ŀ Oper)(fl:Ŀ Bool):Bool:=
 let A:=lP .any l []
 let ops:=l.toArray
 (List.range fl.length).all λi=>!fl.getD i false || ((l[i]?).map λa=>
  (List.range l.length).all λk=>((l[k]?).map λok=>
   (Nat.blt k fl.length || (((A.getD k []).contains i || (match ok.dst with|none=>true|some t=>!(a.looksAt ops).contains t && (match a.dst with|none=>true|some s=>!Nat.beq t s))) &&
    (match a.dst with|none=>true|some t=>!(ok.looksAt ops).contains t || (A.getD k []).contains i))) &&
   (!(Nat.ble k i && fl.getD k false) || (match a.dst with|none=>true|some t=>!(ok.looksAt ops).contains t))).getD true).getD true
def mm(N:Nat)(l:Ŀ Oper)(fl:Ŀ Bool):Bool:=oO .any l && lE .any l fl && rl N l fl.length && Region.noSelect l.toArray && k8 l fl
theorem xC{l:Ŀ Oper}{fl:Ŀ Bool}(h:k8 l fl=true){i k:Nat}{g ok:Oper}(hi:i<fl.length)(y:fl.getD i false=true)(s:l[i]? = some g)(d:l[k]? = some ok):
  (fl.length<=k->(∀ t,i ∉ (lP .any l []).getD k []->ok.dst=some t->t ∉ g.looksAt l.toArray/\g.dst≠some t)/\(∀ t,g.dst=some t->t ∈ ok.looksAt l.toArray->i ∈ (lP .any l []).getD k []))/\
  (k<=i->fl.getD k false=true->∀ t,g.dst=some t->t ∉ ok.looksAt l.toArray):=by
 simp only[k8,Ĕ,ť,ń,Ō] at h
 have q:k<l.length:=(Ć.1 d).1
 have j:=(h i hi).resolve_left (by rw[y]; simp)
 rw[s] at j
 simp only[Ĥ,ś,Ĕ,ť] at j
 have m:=j k q
 rw[d] at m
 simp only[Ĥ,ś,Ē,ń,aaO] at m
 obtain⟨w,c⟩:=m
 refine⟨λB=>?_,λp n t f=>?_⟩
 .have u:=w.resolve_left (by omega)
  refine⟨λt r f=>?_,λt f A=>?_⟩
  .have a:=u.1
   rw[show ((lP .any l []).getD k []).contains i=false by simpa using r] at a
   rw[f] at a
   simp only[Ŏ,false_or,Ē,Ō] at a
   refine⟨by simpa using a.1,λe=>?_⟩
   have v:=a.2
   rw[e] at v
   simp at v
  have a:=u.2
  rw[f] at a
  simp only[ń,Ō] at a
  rcases a with a|a
  .simp at a; exact absurd A a
  simpa using a
 rcases c with c|c
 .simp only[Ō,aaK] at c
  rcases c with c|c
  .have:Nat.ble k i=true:=by simpa using p
   rw[this] at c; cases c
  rw[n] at c; cases c
 rw[f] at c
 simpa using c
theorem Z2{N:Nat}{l:Ŀ Oper}{n:Nat}(h:rl N l n=true){i:Nat}{o:Oper}{t:Nat}(hi:i<n)(y:l[i]? = some o)(v:o.dst=some t):
  t<N/\∀ j o',j<n->l[j]? = some o'->i≠j->o'.dst≠some t/\(t ∈ o'.looksAt l.toArray->(i<j->i ∈ (lP .any l []).getD j [])/\(j<i->j ∈ (lP .any l []).getD i [])):=by
 simp only[rl,Ĕ] at h
 have s:∀ j o',j<n->l[j]? = some o'->(o',j) ∈ (l.take n).zipIdx:=λj o' m p=>by
  rw[List.mem_zipIdx_iff_getElem?]
  simp only[Ň,Ă m]
  exact p
 have d:=h (o,i) (s i o hi y)
 simp only[v,Ē,Ĕ,aaO] at d
 refine⟨d.1,λj o' m p r=>?_⟩
 have f:=d.2 (o',j) (s j o' m p)
 have c:Nat.beq i j=false:=by cases c:Nat.beq i j; rfl; exact absurd (ŏ c) r
 simp only[c,aaf,Ē,ń] at f
 refine⟨λe=>?_,λq=>?_⟩
 .have a:=f.1
  simp only[e] at a
  simp at a
 have a:=f.2
 have u:(o'.looksAt l.toArray).contains t=true:=by simpa using q
 rw[u] at a
 simp only[abN,Ŏ,false_or] at a
 refine⟨λg=>?_,λw=>?_⟩
 .rw[show Nat.blt i j=true by simpa using g] at a
  simpa using a
 rw[show Nat.blt i j=false by cases c:Nat.blt i j; rfl; rw[aaO] at c; omega] at a
 simpa using a
def fill(F:Fr)(a:Act):Act:={ tmps:=a.tmps.mapIdx λt x=>(F.get t).getD x,defers:=a.defers }
theorem zK(F:Fr)(a:Act)(t:Nat):(fill F a).tmps[t]? = (a.tmps[t]?).map λx=>(F.get t).getD x:=by simp[fill]
theorem Jg{N:Nat}{F:Fr}{a:Act}(d:a.defers=[])(e:a.tmps.size=N)(c:∀ t v,F.get t=some v->t<N):Rel N F (fill F a) where
 defers:=d
 size:=by simp[fill,e]
 here:=λt v h=>by
  rw[zK]
  have:=c t v h
  rw[Ń (by omega)]
  simp[h]
theorem Ig{ops:Array Oper}{o:Oper}{a b:Act}(c:∀ cs q,o.op≠.select cs q)(h:∀ t,t ∈ o.looksAt ops->a.tmps[t]? = b.tmps[t]?):execOp a.eval o=execOp b.eval o:=by
 refine execOp_congr o c λx d=>?_
 cases x with
 | tmp t=>
  have:=h t (Ř _ (List.mem_filterMap.2 ⟨.tmp t,by simpa using d,rfl⟩))
  simp[Act.eval,this]
 | _=>rfl
theorem HO{ops:Array Oper}{o:Oper}{a b:Act}(h:∀ t,t ∈ o.looksAt ops->a.tmps[t]? = b.tmps[t]?):Region.wanted o (yielded ops a.tmps)=Region.wanted o (yielded ops b.tmps):=by
 unfold Region.wanted
 cases e:o.guard with
 | none=>rfl
 | some d=>
  obtain⟨g,c⟩:=d
  have i:yielded ops a.tmps g=yielded ops b.tmps g:=by
   unfold yielded
   cases f:(ops[g]?).bind (·.dst) with
   | none=>rfl
   | some t=>
    have:=h t (ņ _ (by simp[e,f]))
    simp[this]
  simp only[i]
theorem filter_one{α:Type}(f:α->Bool):∀ (l:Ŀ α) (i j:Nat) (a b:α),(l.filter f).length<=1->l[i]? = some a->l[j]? = some b->f a=true->f b=true->i<j->False
 | [],i,j,a,b,_,h,_,_,_,_=>by simp at h
 | x::l,0,j+1,a,b,c,d,e,g,m,_=>by
  simp only[į,Ď] at d
  subst d
  simp only[ĭ] at e
  have:b ∈ l.filter f:=Ė.2 ⟨Ł e,m⟩
  have:=List.length_pos_of_mem this
  simp only[Œ,g,if_true,Ġ] at c
  omega
 | x::l,i+1,j+1,a,b,c,d,e,g,m,n=>by
  simp only[ĭ] at d e
  refine filter_one f l i j a b ?_ d e g m (by omega)
  simp only[Œ] at c
  split at c
  .simp only[Ġ] at c; omega
  exact c
theorem J1{l:Ŀ Oper}{k i j:Nat}{o o':Oper}(h:oU l.toArray k=true)(d:l[i]? = some o)(e:l[j]? = some o')(g:(o.looksAt l.toArray).contains k=true)(c:(o'.looksAt l.toArray).contains k=true):i=j:=by
 have f:=aaL h
 rcases fO i j with a|a|a
 .exact (filter_one _ _ i j o o' f d e g c a).elim
 .exact a
 exact (filter_one _ _ j i o' o f e d c g a).elim
section
variable {P:Program}{N:Nat}{Q:õ}{fr:Fr}{w0:Bs}{G0 G:Mem}{L:Lo}{l:Ŀ Oper}
set_option maxHeartbeats 1000000 in
theorem Ff:∀ (T:vU) (Ω:mK) (p:Nat×(Value->Gx->Prop)),p ∈ Ä T Ω->(∃ q ∈ Ω,q.1=p.1)\/∃ (j:Nat) (q:Oper×iy),T[j]? = some q/\q.1.dst=some p.1
 | [],Ω,p,h=>.inl ⟨p,h,rfl⟩
 | (o,.inl c)::r,Ω,p,h=>by
  rcases Ff r Ω p h with h|⟨j,q,a,f⟩
  .exact .inl h
  exact .inr ⟨j+1,q,by simpa using a,f⟩
 | (o,.inr φ)::r,Ω,p,h=>by
  simp only[Ä] at h
  cases g:o.dst with
  | none=>
   rw[g] at h
   rcases Ff r _ p h with h|⟨j,q,a,f⟩
   .exact .inl h
   exact .inr ⟨j+1,q,by simpa using a,f⟩
  | some d=>
   rw[g] at h
   rcases Ff r _ p h with ⟨q,l,e⟩|⟨j,q,a,f⟩
   .rcases ą.1 l with rfl|l
    .exact .inr ⟨0,(o,.inr φ),by simp,by rw[<- e]; exact g⟩
    obtain⟨p0,i,m,_⟩:=EC l
    exact .inl ⟨p0,i,m.symm.trans e⟩
   exact .inr ⟨j+1,q,by simpa using a,f⟩
theorem NS{u a:Nat->Value}:∀ {Ω:mK},(∀ p ∈ Ω,u p.1=a p.1)->ψ Ω u=ψ Ω a
 | [],_=>rfl
 | p::r,h=>by simp only[ψ]; rw[h p (by simp),NS λq c=>h q (by simp[c])]
theorem Np{ops:Array Oper}{o:Oper}{u c:Nat->Value}{G:Gx}:∀ {Ω:mK},(∀ p ∈ Ω,u p.1=c p.1)->ô ops o Ω u G->ô ops o Ω c G
 | [],_,_=>trivial
 | p::r,h,a=>⟨by rw[<- h p (by simp)]; exact a.1,Np (λq d=>h q (by simp[d])) a.2⟩
theorem pQ{Bt:Υ}{R:Act->World->Prop}(hR:∀ a w,wpAny P .any l.toArray Q l.toArray.size (Array.replicate l.toArray.size false) a { w with drawn:=w.drawn+1 }->R a w)(bq:Mem.le G0 G->∀ (X:Gx) w,Gx.le (Gx.of G) X->jO w0 G0 X L w->Bt w)(fl:Ŀ Bool)(hB:mm N l fl=true)(h:Mem.le G0 G->η P N Q fr w0 G0 G L l.toArray Bt fl l [] []):
  ∀ a w,Rel N fr a->St w0 G0 G L w->R a w:=by
 intro a w ha hw
 replace h:=h hw.base
 replace bq:=bq hw.base
 revert a w
 simp only[mm,Ē] at hB
 obtain⟨⟨⟨⟨hE,hT⟩,hS⟩,bL⟩,aA⟩:=hB
 obtain⟨T,t1,t2,t3,t5,t4,t6⟩:=zo bq fl l [] [] h
 generalize hn:fl.length=n at *
 have ch:T.length=min n l.length:=by have:=ć List.length t1; simpa using this
 have J:∀ (j:Nat) (q:Oper×iy),T[j]? = some q->j<n/\l[j]? = some q.1:=by
  intro j q g
  have C:(T.map (·.1))[j]? = some q.1:=by simp[g]
  rw[t1,Ň] at C
  split at C
  .exact⟨by assumption,C⟩
  cases C
 have bD:∀ (j:Nat) (o:Oper),j<n->l[j]? = some o->∃ e,T[j]? = some (o,e):=by
  intro j o g hl
  have bC:j<T.length:=by have:=(Ć.1 hl).1; omega
  refine⟨T[j].2,?_⟩
  rw[Ą bC]
  have C:=(J j T[j] (Ą bC)).2
  rw[hl] at C
  cases C
  rfl
 have aO:∀ (ao aj:Nat) (ap ak:Oper×iy) (d:Nat),T[ao]? = some ap->T[aj]? = some ak->ap.1.dst=some d->ak.1.dst=some d->ao=aj:=by
  intro ao aj ap ak d C B e1 e2
  apply Ŝ
  intro ad
  obtain⟨a1,V⟩:=J ao ap C
  obtain⟨a2,b2⟩:=J aj ak B
  exact ((Z2 hS a1 V e1).2 aj ak.1 a2 b2 ad).1 e2
 have av:=Region.noSelect_spec bL
 intro a w ha hw
 have K:∀ (i:Nat) (u:Nat->Value) (t:Nat),
   ((∀ j q,j<i->T[j]? = some q->q.1.dst≠some t)->Fr.get (ψ (Ä (T.take i) []) u++(gM (T.take i) []++fr)) t=fr.get t)/\
   (∀ (j:Nat) (q:Oper×iy),j<i->T[j]? = some q->q.1.dst=some t->Fr.get (ψ (Ä (T.take i) []) u++(gM (T.take i) []++fr)) t=some (q.2.val u t)):=by
  intro i u t
  have aJ:∀ (j:Nat) (q:Oper×iy),(T.take i)[j]? = some q->j<i/\T[j]? = some q:=by
   intro j q g
   rw[Ň] at g
   split at g
   .exact⟨by assumption,g⟩
   cases g
  obtain⟨f1,f2⟩:=Ji (fr:=fr) (u:=u) (T.take i) [] [] t (by simp) (λao aj ap ak d C B=>aO ao aj ap ak d (aJ _ _ C).2 (aJ _ _ B).2)
   (λq hq φ O=>by obtain⟨d,hd,_⟩:=t3 q (Ů hq) φ O; rw[hd]; rfl)
  refine⟨λhn=>?_,λj q g hq hd=>?_⟩
  .rw[f1 (λq hq=>by
    obtain⟨j,g⟩:=aaS hq
    exact hn j q (aJ j q g).1 (aJ j q g).2)]
   rfl
  refine f2 q ?_ hd
  have:(T.take i)[j]? = some q:=by rw[Ň,Ă g]; exact hq
  exact Ł this
 let Inv:(Nat->Prop)->Act->World->Prop:=λD a w=>∃ (u:Nat->Value) (G':Gx),Gx.le (Gx.of G) G'/\jO w0 G0 G' L w/\a.defers=[]/\a.tmps.size=N/\
  (∀ (j:Nat) (q:Oper×iy) (t:Nat),T[j]? = some q->q.1.dst=some t->(D j->a.tmps[t]? = some (q.2.val u t)/\∀ φ,q.2 = .inr φ->(∀ (i:Nat) (q':Oper×iy),T[i]? = some q'->D i->q'.2.oN≠some t)->φ.2 (u t) G')/\(¬ D j->∀ v,fr.get t=some v->a.tmps[t]? = some v))/\
  (∀ t,(∀ (j:Nat) (q:Oper×iy),T[j]? = some q->q.1.dst≠some t)->∀ v,fr.get t=some v->a.tmps[t]? = some v)
 let aS:(Nat->Prop)->Nat->Act->World->Prop:=λD m a w=>∃ (u:Nat->Value) (af:Act),(∃ G':Gx,Gx.le (Gx.of G) G'/\∀ (j:Nat) (q:Oper×iy) (t:Nat) (φ:ŀ Nat×(Value->Gx->Prop)),T[j]? = some q->q.1.dst=some t->q.2 = .inr φ->(∀ (i:Nat) (q':Oper×iy),T[i]? = some q'->q'.2.oN≠some t)->φ.2 (u t) G')/\jQ P l.toArray Bt (NX Q) (l.drop m) af w/\a.defers=af.defers/\a.tmps.size=N/\af.tmps.size=N/\
  (∀ t,(∀ (j:Nat) (q:Oper×iy),T[j]? = some q->fl.getD j false=true->¬ D j->q.1.dst≠some t)->a.tmps[t]? = af.tmps[t]?)/\
  (∀ (j:Nat) (q:Oper×iy) (t:Nat),T[j]? = some q->fl.getD j false=true->¬ D j->q.1.dst=some t->af.tmps[t]? = some (q.2.val u t))/\
  (∀ (j:Nat) (q:Oper×iy),T[j]? = some q->fl.getD j false=true->¬ D j->∀ t,t ∈ q.1.looksAt l.toArray->∀ v,Fr.get (ψ (Ä (T.take j) []) u++(gM (T.take j) []++fr)) t=some v->af.tmps[t]? = some v)/\
  (∀ (j:Nat) (q:Oper×iy),T[j]? = some q->fl.getD j false=true->¬ D j->∃ c,(∀ t,q.1.dst=some t->q.2.val u t=c)/\∀ G',Gx.le (Gx.of G) G'->ô l.toArray q.1 (Ä (T.take j) []) u G'->κ l.toArray (ψ (Ä (T.take j) []) u++(gM (T.take j) []++fr)) q.1 true/\Y0 P N q.1 (ψ (Ä (T.take j) []) u++(gM (T.take j) []++fr)) Bt c)
 have cg:∀ j,fl.getD j false=true->j<n:=λj g=>by
  rcases Ś j n with h|h
  .exact h
  rw[Ķ,Ĺ (by omega)] at g; cases g
 refine hR _ _ (WI (fl:=fl) Inv aS hE hT ?_ ?_ ?_ ?_ ?_ ?_)
 .exact⟨λ_=>undef,Gx.of G,Gx.le_refl _,jO.of hw.drew,ha.defers,ha.size,λj q t _ _=>⟨λh=>h.elim,λ_ v hv=>ha.here t v hv⟩,λt _ v hv=>ha.here t v hv⟩
 .intro D a w i o hc _ hi ho aF hr hI
  rw[hn] at hi
  obtain⟨u,G',aN,aQ,hd,ab,ai,aq⟩:=hI
  obtain⟨e,ae⟩:=bD i o hi ho
  have Y:=zi hc i o ho hr
  let F:Fr:=ψ (Ä (T.take i) []) u++(gM (T.take i) []++fr)
  have hF:∀ t v,F.get t=some v->t<N:=by
   intro t v hv
   by_cases I:∃ (j:Nat) (q:Oper×iy),j<i/\T[j]? = some q/\q.1.dst=some t
   .obtain⟨j,q,C,B,H⟩:=I
    obtain⟨a1,V⟩:=J j q B
    exact (Z2 hS a1 V H).1
   have:=(K i u t).1 (λj q C B H=>I ⟨j,q,C,B,H⟩)
   have al:fr.get t=some v:=by rw[<- this]; exact hv
   have:=ha.here t v al
   have:=(Ĉ.1 this).1
   have bK:=ha.size
   omega
  have aa:∀ t,t ∈ o.looksAt l.toArray->(fill F a).tmps[t]? = a.tmps[t]?:=by
   intro t U
   rw[zK]
   cases hx:a.tmps[t]? with
   | none=>rfl
   | some x=>
    simp only[Ĥ,Ď]
    cases S:F.get t with
    | none=>rfl
    | some v=>
     simp only[ś]
     have key:a.tmps[t]? = some v:=by
      by_cases I:∃ (j:Nat) (q:Oper×iy),j<i/\T[j]? = some q/\q.1.dst=some t
      .obtain⟨j,q,C,B,H⟩:=I
       have hv:=(K i u t).2 j q C B H
       have cc:q.2.val u t=v:=by rw[S] at hv; simpa using hv.symm
       obtain⟨a1,V⟩:=J j q B
       have hD:D j:=Y j (((Z2 hS a1 V H).2 i o hi ho (by omega)).2 U |>.1 C)
       rw[<- cc]
       exact ((ai j q t B H).1 hD).1
      have hb:=(K i u t).1 (λj q C B H=>I ⟨j,q,C,B,H⟩)
      have al:fr.get t=some v:=by rw[<- hb]; exact S
      by_cases bi:∃ (j:Nat) (q:Oper×iy),T[j]? = some q/\q.1.dst=some t
      .obtain⟨j,q,B,H⟩:=bi
       have ar:i<=j:=by
        rcases Ś j i with h|h
        .exact absurd ⟨j,q,h,B,H⟩ I
        exact h
       have b7:¬ D j:=by
        rcases Ś i j with h|h
        .intro az
         obtain⟨a1,V⟩:=J j q B
         have bs:=(((Z2 hS a1 V H).2 i o hi ho (by omega)).2 U).2 h
         exact aF (zi hc j q.1 V (λe O hb=>hc j q.1 (by simpa using V) az e O hb) i bs)
        have:i=j:=by omega
        subst this
        exact aF
       exact (ai j q t B H).2 b7 v al
      exact aq t (λj q B H=>bi ⟨j,q,B,H⟩) v al
     rw[hx] at key
     simpa using key.symm
  have an:Rel N F (fill F a):=Jg hd ab hF
  have I:execOp (fill F a).eval o=execOp a.eval o:=Ig (λcs b=>av i o cs b (by simpa using ho)) aa
  have aH:Region.wanted o (yielded l.toArray (fill F a).tmps)=Region.wanted o (yielded l.toArray a.tmps):=HO aa
  have cb:ô l.toArray o (Ä (T.take i) []) u G':=by
   refine H9 λp hp aP=>?_
   rcases xS (T.take i) [] p hp with ⟨q,h,_⟩|h|⟨j,o',φ,C,B,H,_⟩
   .cases h
   .exact h _ _
   rw[Ň] at C
   split at C
   .rename_i ar
    obtain⟨a1,V⟩:=J j _ C
    have hD:D j:=Y j (((Z2 hS a1 V B).2 i o hi ho (by omega)).2 aP |>.1 ar)
    rw[H]
    refine ((ai j _ p.1 C B).1 hD).2 φ rfl λi' q' W bv O=>aF ?_
    obtain⟨e1,e2,_⟩:=t6 i' q'.1 q'.2 p.1 W O
    have:=J1 e2 (J i' q' W).2 ho e1 (by simpa using aP)
    rw[<- this]; exact bv
   cases C
  have b9:=t2 i o e ae u G' aN cb
  have ac:∀ v w' ay,Gx.ra e.oN G' ay->jO w0 G0 ay L w'->e.post v ay->Inv (λj=>D j\/j=i) (a.put o.dst v) w':=by
   intro v w' ay bj bM ah
   let u':Nat->Value:=λt=>if o.dst=some t then v else u t
   refine⟨u',ay,Gx.Zvx aN bj,bM,by cases o.dst <;> exact hd,by cases o.dst <;> simpa [Act.put] using ab,λj q t g y=>?_,λt hn x hx=>?_⟩
   .by_cases ar:j=i
    .subst ar
     rw[ae] at g
     cases g
     simp only at y
     refine⟨λ_=>?_,λh=>absurd (Or.inr rfl) h⟩
     have a9:=(Z2 hS hi ho y).1
     refine⟨?_,λφ O _=>?_⟩
     .rw[y]
      simp only[Act.put]
      rw[ŗ (by omega)]
      cases e with
      | inl c=>simp only[iy.post] at ah; simp[iy.val,ah]
      | inr φ=>simp[iy.val,u',y]
     simp only at O
     subst O
     simp only[u',y,if_true]
     exact ah
    have ad:o.dst≠some t:=λO=>ar (aO j i q (o,e) t g ae y O)
    have Z:(a.put o.dst v).tmps[t]? = a.tmps[t]?:=by
     cases aG:o.dst with
     | none=>rfl
     | some s=>
      simp only[Act.put]
      rw[Ŋ (λe=>ad (by rw[aG,e]))]
    have bO:u' t=u t:=by simp only[u']; rw[Ā ad]
    have ba:q.2.val u' t=q.2.val u t:=by
     cases q.2 with
     | inl c=>rfl
     | inr φ=>simp only[iy.val]; exact bO
    rw[Z,ba]
    refine⟨λhD=>?_,λhD=>(ai j q t g y).2 (λh=>hD (.inl h))⟩
    have az:D j:=hD.resolve_right ar
    have:=(ai j q t g y).1 az
    refine⟨this.1,λφ O bl=>?_⟩
    rw[bO]
    obtain⟨d,aV,aY⟩:=t3 q (Ł g) φ O
    have b4:d=t:=by rw[aV] at y; simpa using y
    subst b4
    exact aY _ _ _ (bj.sB (bl i _ ae (.inr rfl))) (this.2 φ O λi' q' C B=>bl i' q' C (.inl B))
   have ad:o.dst≠some t:=hn i (o,e) ae
   have Z:(a.put o.dst v).tmps[t]? = a.tmps[t]?:=by
    cases aG:o.dst with
    | none=>rfl
    | some s=>
     simp only[Act.put]
     rw[Ŋ (λe=>ad (by rw[aG,e]))]
   rw[Z]
   exact aq t hn x hx
  unfold wpOp
  have aZ:l.toArray[i]? = some o:=by simpa using ho
  simp only[aZ]
  rcases b9 with ⟨hg,hk,ah⟩|⟨hg,cd⟩
  .rw[Ā (by rw[<- aH,an.wanted hg]; simp)]
   exact ac undef w G' (by rw[hk]; exact (Gx.le_refl _).ra) aQ ah
  rw[Ă (by rw[<- aH,an.wanted hg])]
  have bn:=cd (fill F a) w an aQ
  rw[I] at bn
  exact .inl (bn.wp λv w' ⟨ay,C,B,H⟩=>ac v w' ay C B H)
 .-- bT nK
  intro D a w aK aT _ hI
  obtain⟨u0,G',aN,aQ,hd,ab,bg,aq⟩:=hI
  have bt:∀ m,∃ u:Nat->Value,(∀ t,(∀ (j:Nat) (q:Oper×iy),j<m->T[j]? = some q->fl.getD j false=true->¬ D j->q.1.dst≠some t)->u t=u0 t)/\
    ∀ (j:Nat) (o:Oper) (e:iy),j<m->T[j]? = some (o,e)->fl.getD j false=true->¬ D j->e.oN=none/\∃ c,(∀ t,o.dst=some t->e.val u t=c)/\∀ G',Gx.le (Gx.of G) G'->ô l.toArray o (Ä (T.take j) []) u G'->κ l.toArray (ψ (Ä (T.take j) []) u++(gM (T.take j) []++fr)) o true/\Y0 P N o (ψ (Ä (T.take j) []) u++(gM (T.take j) []++fr)) Bt c/\∀ φ,e = .inr φ->φ.2 c G':=by
   intro m
   induction m with
   | zero=>exact⟨u0,λ_ _=>rfl,λj _ _ h=>absurd h (ō j)⟩
   | succ m ih=>
    obtain⟨u,C,B⟩:=ih
    have bp:(∀ (o:Oper) (e:iy),T[m]? = some (o,e)->fl.getD m false=true->¬ D m->∃ c,e = .inl c/\∀ u G',Gx.le (Gx.of G) G'->ô l.toArray o (Ä (T.take m) []) u G'->κ l.toArray (ψ (Ä (T.take m) []) u++(gM (T.take m) []++fr)) o true/\Y0 P N o (ψ (Ä (T.take m) []) u++(gM (T.take m) []++fr)) Bt c)->
      ∃ u:Nat->Value,(∀ t,(∀ (j:Nat) (q:Oper×iy),j<m+1->T[j]? = some q->fl.getD j false=true->¬ D j->q.1.dst≠some t)->u t=u0 t)/\
    ∀ (j:Nat) (o:Oper) (e:iy),j<m+1->T[j]? = some (o,e)->fl.getD j false=true->¬ D j->e.oN=none/\∃ c,(∀ t,o.dst=some t->e.val u t=c)/\∀ G',Gx.le (Gx.of G) G'->ô l.toArray o (Ä (T.take j) []) u G'->κ l.toArray (ψ (Ä (T.take j) []) u++(gM (T.take j) []++fr)) o true/\Y0 P N o (ψ (Ä (T.take j) []) u++(gM (T.take j) []++fr)) Bt c/\∀ φ,e = .inr φ->φ.2 c G':=by
     intro aQ
     refine⟨u,λt U=>C t λj q g=>U j q (by omega),λj o e g aB S A=>?_⟩
     rcases abk.1 g with g|rfl
     .exact B j o e g aB S A
     obtain⟨c,rfl,hc⟩:=aQ o e aB S A
     exact⟨rfl,c,λ_ _=>rfl,λG' g1 g2=>⟨(hc u G' g1 g2).1,(hc u G' g1 g2).2,λφ O=>by cases O⟩⟩
    by_cases bF:∃ o e,T[m]? = some (o,e)/\fl.getD m false=true/\¬ D m
    .obtain⟨o,e,aw,bd,bH⟩:=bF
     rcases t5 m o e aw bd with ⟨c,O,hc⟩|⟨φ,c,O,bE,hc⟩
     .exact bp λo' e' h _ _=>by rw[aw] at h; cases h; exact⟨c,O,hc⟩
     subst O
     obtain⟨d,aL,_⟩:=t3 _ (Ł aw) (none,φ) rfl
     simp only at aL
     obtain⟨am,bm⟩:=J m _ aw
     have bQ:∀ j,j<=m->∀ p ∈ Ä (T.take j) [],u p.1=(λt=>if t=d then c u else u t) p.1:=by
      intro j g p hp
      have:p.1≠d:=by
       intro e
       rcases Ff (T.take j) [] p hp with ⟨q,hq,_⟩|⟨i,q,hi,hq⟩
       .cases hq
       rw[Ň] at hi
       split at hi
       .have:=aO i m q _ d hi aw (by rw[<- e]; exact hq) aL
        omega
       cases hi
      simp only[Ā this]
     refine⟨λt=>if t=d then c u else u t,λt U=>?_,λj o' e' g aB S A=>?_⟩
     .have:t≠d:=λe=>U m _ (aal m) aw bd bH (by rw[e]; exact aL)
      simp only[Ā this]
      exact C t λj q g=>U j q (by omega)
     rcases abk.1 g with g|rfl
     .obtain⟨g1,c',g2,g3⟩:=B j o' e' g aB S A
      refine⟨g1,c',λt U=>?_,λG' k1 k2=>?_⟩
      .rw[<- g2 t U]
       cases e' with
       | inl c=>rfl
       | inr bb=>
        have:t≠d:=λe=>by
         have:=aO j m _ _ d aB aw (by rw[<- e]; exact U) aL
         omega
        simp only[iy.val,Ā this]
      rw[<- NS (bQ j (by omega))]
      exact g3 G' k1 (Np (λp hp=>(bQ j (by omega) p hp).symm) k2)
     rw[aw] at aB
     cases aB
     have b3:c (λt=>if t=d then c u else u t)=c u:=(bE _ _ λt U=>by
      have:t≠d:=λe=>(xC aA (by omega) bd bm bm).2 (č _) bd d aL (by rw[<- e]; exact U)
      simp only[Ā this]).symm
     refine⟨rfl,c u,λt U=>?_,λG' k1 k2=>?_⟩
     .have:t=d:=by rw[aL] at U; simpa using U.symm
      simp only[iy.val,Ă this]
     have:=hc _ G' k1 k2
     rw[b3] at this
     exact⟨this.1,this.2.1,λbb O=>by cases O; exact this.2.2⟩
    exact bp λo e C B H=>absurd ⟨o,e,C,B,H⟩ bF
  obtain⟨u,ca,bP⟩:=bt T.length
  have bh:∀ (j:Nat) (q:Oper×iy),T[j]? = some q->j<T.length:=λj q g=>(Ć.1 g).1
  have aI:∀ (j:Nat) (q:Oper×iy) (t:Nat),T[j]? = some q->q.1.dst=some t->D j->a.tmps[t]? = some (q.2.val u t)/\∀ φ,q.2 = .inr φ->(∀ (i:Nat) (q':Oper×iy),T[i]? = some q'->D i->q'.2.oN≠some t)->φ.2 (u t) G':=by
   intro j q t g y hD
   have bS:u t=u0 t:=ca t λj' q' _ aE _ bG aV=>bG (by rw[aO j' j q' q t aE g aV y]; exact hD)
   have ba:q.2.val u t=q.2.val u0 t:=by
    cases q.2 with
    | inl c=>rfl
    | inr φ=>exact bS
   rw[ba,bS]
   exact (bg j q t g y).1 hD
  have bW:T.take T.length=T:=ě
  let F:Fr:=ψ (Ä T []) u++(gM T []++fr)
  have aM:∀ t,((∀ (j:Nat) (q:Oper×iy),T[j]? = some q->q.1.dst≠some t)->F.get t=fr.get t)/\(∀ (j:Nat) (q:Oper×iy),T[j]? = some q->q.1.dst=some t->F.get t=some (q.2.val u t)):=by
   intro t
   have h0:=K T.length u t
   rw[bW] at h0
   exact⟨λh=>h0.1 (λj q _ g=>h j q g),λj q g hd=>h0.2 j q (Ć.1 g).1 g hd⟩
  have az:∀ (j:Nat) (q:Oper×iy),T[j]? = some q->¬ fl.getD j false=true->D j:=λj q g S=>by
   obtain⟨a1,V⟩:=J j q g
   exact aT j (by omega) (Ć.1 V).1 (by simpa using S)
  have hF:∀ t v,F.get t=some v->t<N:=by
   intro t v hv
   by_cases I:∃ (j:Nat) (q:Oper×iy),T[j]? = some q/\q.1.dst=some t
   .obtain⟨j,q,B,H⟩:=I
    obtain⟨a1,V⟩:=J j q B
    exact (Z2 hS a1 V H).1
   rw[(aM t).1 (λj q B H=>I ⟨j,q,B,H⟩)] at hv
   have:=ha.here t v hv
   have:=(Ĉ.1 this).1
   have bK:=ha.size
   omega
  have aU:∀ (j:Nat) (o:Oper) (φ:ŀ Nat×(Value->Gx->Prop)) (t:Nat),T[j]? = some (o,.inr φ)->o.dst=some t->(∀ (i:Nat) (q':Oper×iy),T[i]? = some q'->q'.2.oN≠some t)->φ.2 (u t) G':=by
   intro j
   induction j using Nat.strongRecOn with
   | _ j ih=>
    intro o φ t g y ad
    by_cases hD:D j
    .exact (aI j _ t g y hD).2 φ rfl λi q' h _=>ad i q' h
    have S:fl.getD j false=true:=Ŝ λh=>hD (az j _ g h)
    obtain⟨aW,c,bZ,b0⟩:=bP j o _ (bh j _ g) g S hD
    obtain⟨a1,V⟩:=J j _ g
    have:=(b0 G' aN (H9 λp hp aP=>by
     rcases xS (T.take j) [] p hp with ⟨q,h,_⟩|h|⟨j',o',bb,C,B,H,_⟩
     .cases h
     .exact h _ _
     rw[Ň] at C
     split at C
     .rename_i b6
      rw[H]
      refine ih j' b6 o' bb p.1 C B λi' q' W O=>?_
      obtain⟨e1,e2,_⟩:=t6 i' q'.1 q'.2 p.1 W O
      have:=J1 e2 (J i' q' W).2 V e1 (by simpa using aP)
      subst this
      rw[g] at W
      cases W
      rw[aW] at O
      cases O
     cases C)).2.2 φ rfl
    have e:u t=c:=bZ t y
    rw[e]; exact this
  have bR:oa (Ä T []) u G':=ZsO λp hp=>by
   rcases xS T [] p hp with ⟨q,h,_⟩|h|⟨j,o',φ,C,B,H,h4⟩
   .cases h
   .exact h _ _
   rw[H]
   refine aU j o' φ p.1 C B λi' q' W O=>?_
   .obtain⟨_,_,e3⟩:=t6 i' q'.1 q'.2 p.1 W O
    rcases e3 with ⟨p',h',_⟩|⟨j',ce,aE,bI,bB⟩
    .cases h'
    have:j'=j:=aO j' j ce _ p.1 bI C bB B
    subst this
    refine h4 i' q' aE W ?_ O
    cases bJ:q'.2 with
    | inl c=>rw[bJ] at O; simp[iy.oN] at O
    | inr bb=>obtain⟨d',aV,_⟩:=t3 q' (Ł W) bb bJ; rw[aV]; rfl
  refine⟨u,fill F a,⟨G',aN,λj q t φ C B H h4=>aU j q.1 φ t (by rw[C]; congr 1; exact abR rfl H) B h4⟩,?_,rfl,ab,by simp[fill,ab],λt U=>?_,λj q t g S A y=>?_,λj q g S A t U v hv=>?_,λj q g S A=>?_⟩
  .have:=t4 u G' aN bR (fill F a) w (Jg hd ab hF) aQ
   rw[hn]
   exact this
  .rw[zK]
   cases hx:a.tmps[t]? with
   | none=>rfl
   | some x=>
    simp only[Ĥ,Ď]
    cases S:F.get t with
    | none=>rfl
    | some v=>
     simp only[ś]
     have key:a.tmps[t]? = some v:=by
      by_cases I:∃ (j:Nat) (q:Oper×iy),T[j]? = some q/\q.1.dst=some t
      .obtain⟨j,q,B,H⟩:=I
       have hv:=(aM t).2 j q B H
       rw[S] at hv
       simp only[Ď] at hv
       rw[hv]
       have hD:D j:=by
        apply Ŝ
        intro A
        by_cases ag:fl.getD j false=true
        .exact U j q B ag A H
        exact A (az j q B ag)
       exact (aI j q t B H hD).1
      have hb:=(aM t).1 (λj q B H=>I ⟨j,q,B,H⟩)
      exact aq t (λj q B H=>I ⟨j,q,B,H⟩) v (by rw[<- hb]; exact S)
     rw[hx] at key
     simpa using key
  .rw[zK]
   have a9:=(Z2 hS (J j _ g).1 (J j _ g).2 y).1
   rw[Ń (show t<a.tmps.size by rw[ab]; exact a9)]
   have hv:=(aM t).2 j _ g y
   simp only[Ĥ,hv,ś]
  .rw[zK]
   have bw:F.get t=some v:=by
    by_cases I:∃ (i:Nat) (q':Oper×iy),i<j/\T[i]? = some q'/\q'.1.dst=some t
    .obtain⟨i,q',C,B,H⟩:=I
     rw[(K j u t).2 i q' C B H] at hv
     rw[(aM t).2 i q' B H]
     exact hv
    rw[(K j u t).1 (λi q' C B H=>I ⟨i,q',C,B,H⟩)] at hv
    rw[(aM t).1 (λi q' B H=>?_)]
    .exact hv
    obtain⟨a1,V⟩:=J i q' B
    obtain⟨a2,b2⟩:=J j q g
    have bs:j<=i:=by
     rcases Ś i j with h|h
     .exact absurd ⟨i,q',h,B,H⟩ I
     exact h
    by_cases br:fl.getD i false=true
    .exact (xC aA (by omega) br V b2).2 bs S t H U
    rcases Ś j i with h|h
    .have bV:=az i q' B br
     have Y:=(((Z2 hS a1 V H).2 j q.1 a2 b2 (by omega)).2 U).2 h
     exact A (zi aK i q'.1 V (λe O hb=>aK i q'.1 (by simpa using V) bV e O hb) j Y)
    have:i=j:=by omega
    subst this
    exact br S
   have a9:t<a.tmps.size:=by rw[ab]; exact hF t v bw
   rw[Ń a9]
   simp[bw]
  obtain⟨_,c,k1,k2⟩:=bP j q.1 q.2 (bh j q g) g S A
  exact⟨c,k1,λG' g1 g2=>⟨(k2 G' g1 g2).1,(k2 G' g1 g2).2.1⟩⟩
 .-- bT tail
  intro D a w m o aK aY ho cj hr hI
  obtain⟨u,af,hX,E,aC,ab,ax,aD,au,aa,bf⟩:=hI
  rw[hn] at aY
  have be:m<l.length:=(Ć.1 ho).1
  have b8:l[m]=o:=by rw[Ą be] at ho; simpa using ho
  have Y:=zi aK m o ho hr
  have bc:∀ t,t ∈ o.looksAt l.toArray->af.tmps[t]? = a.tmps[t]?:=λt U=>(aD t (λj q g S A y=>by
   obtain⟨a1,V⟩:=J j q g
   exact A (Y j (((xC aA (by omega) S V ho).1 (by omega)).2 t y U)))).symm
  have I:execOp af.eval o=execOp a.eval o:=Ig (λcs b=>av m o cs b (by simpa using ho)) bc
  have aH:Region.wanted o (yielded l.toArray af.tmps)=Region.wanted o (yielded l.toArray a.tmps):=HO bc
  rw[Ĵ be,b8] at E
  unfold jQ at E
  replace E:=E.2
  have ac:∀ v w' ds,jQ P l.toArray Bt (NX Q) (l.drop (m+1)) (({ af with defers:=ds }:Act).put o.dst v) w'->aS (λj=>D j\/j=m) (m+1) (({ a with defers:=ds }:Act).put o.dst v) w':=by
   intro v w' ds aR
   have Z:∀ (x:Act) t,o.dst≠some t->(x.put o.dst v).tmps[t]? = x.tmps[t]?:=λx t ad=>by
    cases aG:o.dst with
    | none=>rfl
    | some s=>
     simp only[Act.put]
     rw[Ŋ (λe=>ad (by rw[aG,e]))]
   refine⟨u,_,hX,aR,by cases o.dst <;> rfl,by cases o.dst <;> simpa [Act.put] using ab,by cases o.dst <;> simpa [Act.put] using ax,λt U=>?_,λj q t g S A y=>?_,λj q g S A t U v' al=>?_,λj q g S A=>bf j q g S (λh=>A (.inl h))⟩
   .by_cases y:o.dst=some t
    .rw[y]
     simp only[Act.put,Š,ab,ax,if_true]
    rw[Z _ t y,Z _ t y]
    exact aD t (λj q g S A hd=>by
     have:=(J j q g).1
     exact U j q g S (λh=>h.elim A (λe=>by omega)) hd)
   .obtain⟨a1,V⟩:=J j _ g
    have ad:o.dst≠some t:=λe=>(((xC aA (by omega) S V ho).1 (by omega)).1 t (λaE=>A (.inl (Y j aE))) e).2 y
    rw[Z _ t ad]
    exact au j q t g S (λh=>A (.inl h)) y
   obtain⟨a1,V⟩:=J j _ g
   have ad:o.dst≠some t:=λe=>(((xC aA (by omega) S V ho).1 (by omega)).1 t (λaE=>A (.inl (Y j aE))) e).1 U
   rw[Z _ t ad]
   exact aa j q g S (λh=>A (.inl h)) t U v' al
  have bX:({ af with defers:=a.defers }:Act)=af:=by rw[aC]
  have plain:∀ v w',jQ P l.toArray Bt (NX Q) (l.drop (m+1)) (af.put o.dst v) w'->aS (λj=>D j\/j=m) (m+1) (a.put o.dst v) w':=λv w' h=>ac v w' a.defers (by rw[bX]; exact h)
  unfold wpOp
  have aZ:l.toArray[m]? = some o:=by simpa using ho
  simp only[aZ]
  by_cases aR:Region.wanted o (yielded l.toArray a.tmps)=true
  .rw[Ă aR]
   rw[Ă (by rw[aH]; exact aR)] at E
   refine .inl ?_
   unfold Oper.wp at E ⊢
   rw[I] at E
   generalize (execOp a.eval o).run P w=r at E ⊢
   cases r with
   | ok x w'=>
    cases x <;> simp only[Oper.upon] at E ⊢
    case value v=>exact plain v w' E
    case skip=>exact plain undef w' E
    case defer d=>exact ac undef w' (d::a.defers) (by rw[aC]; exact E)
    case enter f args=>
     refine aas E λe bu O=>?_
     cases e with
     | returned v=>exact plain v bu O
     | panicked c=>exact O.elim
     | outgrown=>obtain⟨_,_,h⟩:=O; exact h.elim
    case row row args=>exact Rows.mono E λv bu O=>plain v bu O
   | halt x w'=>cases x <;> simp only[Oper.upon] at E ⊢; exact E.elim
  rw[Ā aR]
  rw[Ā (by rw[aH]; exact aR)] at E
  exact plain undef w E
 .-- one ci bU
  intro D a w m i o aK hi aY S ho aF hr hI
  obtain⟨u,af,hX,E,aC,ab,ax,aD,au,aa,bf⟩:=hI
  rw[hn] at hi aY
  obtain⟨e,ae⟩:=bD i o hi ho
  have aW:e.oN=none:=by
   rcases t5 i o e ae S with ⟨c,rfl,_⟩|⟨φ,c,rfl,_⟩ <;> rfl
  obtain⟨c,bA,bz⟩:=bf i (o,e) ae S aF
  simp only at bA bz
  obtain⟨GX,bk,bx⟩:=hX
  have hY:=bz GX bk (H9 λp hp aP=>by
   rcases xS (T.take i) [] p hp with ⟨q,h,_⟩|h|⟨j,o',φ,C,B,H,_⟩
   .cases h
   .exact h _ _
   rw[Ň] at C
   split at C
   .rw[H]
    refine bx j _ p.1 φ C B rfl λi' q' W O=>?_
    obtain⟨e1,e2,_⟩:=t6 i' q'.1 q'.2 p.1 W O
    have:=J1 e2 (J i' q' W).2 ho e1 (by simpa using aP)
    subst this
    rw[ae] at W
    cases W
    rw[aW] at O
    cases O
   cases C)
  have Y:=zi aK i o ho hr
  let F:Fr:=ψ (Ä (T.take i) []) u++(gM (T.take i) []++fr)
  have hF:∀ t v,F.get t=some v->t<N:=by
   intro t v hv
   by_cases I:∃ (j:Nat) (q:Oper×iy),j<i/\T[j]? = some q/\q.1.dst=some t
   .obtain⟨j,q,C,B,H⟩:=I
    obtain⟨a1,V⟩:=J j q B
    exact (Z2 hS a1 V H).1
   have:=(K i u t).1 (λj q C B H=>I ⟨j,q,C,B,H⟩)
   have al:fr.get t=some v:=by rw[<- this]; exact hv
   have:=ha.here t v al
   have:=(Ĉ.1 this).1
   have bK:=ha.size
   omega
  have bc:∀ t,t ∈ o.looksAt l.toArray->af.tmps[t]? = a.tmps[t]?:=λt U=>(aD t (λj q g ag A y=>by
   obtain⟨a1,V⟩:=J j q g
   rcases fO j i with h|h|h
   .exact A (Y j ((((Z2 hS a1 V y).2 i o hi ho (by omega)).2 U).1 h))
   .subst h
    rw[ae] at g
    cases g
    exact (xC aA (by omega) S ho ho).2 (č _) S t y U
   exact (xC aA (by omega) ag V ho).2 (by omega) S t y U)).symm
  have aX:∀ t,t ∈ o.looksAt l.toArray->(fill F a).tmps[t]? = a.tmps[t]?:=by
   intro t U
   rw[zK]
   cases hx:a.tmps[t]? with
   | none=>rfl
   | some x=>
    simp only[Ĥ,Ď]
    cases b5:F.get t with
    | none=>rfl
    | some v=>
     have C:=aa i (o,e) ae S aF t U v b5
     rw[bc t U,hx] at C
     simpa using C.symm
  have an:Rel N F (fill F { a with defers:=[] }):=Jg rfl ab hF
  have I:execOp (fill F { a with defers:=[] }).eval o=execOp a.eval o:=Ig (ops:=l.toArray) (λcs b=>av i o cs b (by simpa using ho)) aX
  have aH:Region.wanted o (yielded l.toArray (fill F { a with defers:=[] }).tmps)=Region.wanted o (yielded l.toArray a.tmps):=HO (a:=fill F { a with defers:=[] }) aX
  unfold wpOp
  have aZ:l.toArray[i]? = some o:=by simpa using ho
  simp only[aZ]
  rw[Ă (by rw[<- aH,an.wanted hY.1])]
  refine .inl ?_
  have bY:Bt w:=by
   generalize l.drop m=r at E
   cases r with
   | nil=>exact E.1
   | cons o' r=>exact E.1
  have bo:=hY.2 (fill F { a with defers:=[] }) w an bY
  rw[I] at bo
  simp only[Oper.wp,bo,Oper.upon]
  refine⟨u,af,⟨GX,bk,bx⟩,E,by cases o.dst <;> exact aC,by cases o.dst <;> simpa [Act.put] using ab,ax,λt U=>?_,λj q t g ag A y=>?_,λj q g ag A t U v' al=>?_,λj q g ag A=>bf j q g ag (λh=>A (.inl h))⟩
  .by_cases y:o.dst=some t
   .have a9:=(Z2 hS hi ho y).1
    rw[y]
    simp only[Act.put]
    rw[ŗ (by omega)]
    have h0:=au i (o,e) t ae S aF y
    rw[bA t y] at h0
    exact h0.symm
   have Z:(a.put o.dst c).tmps[t]? = a.tmps[t]?:=by
    cases aG:o.dst with
    | none=>rfl
    | some s=>
     simp only[Act.put]
     rw[Ŋ (λe=>y (by rw[aG,e]))]
   rw[Z]
   refine aD t (λj q g ag A hd=>?_)
   by_cases ar:j=i
   .subst ar
    rw[ae] at g
    cases g
    exact y hd
   exact U j q g ag (λh=>h.elim A ar) hd
  .exact au j q t g ag (λh=>A (.inl h)) y
  exact aa j q g ag (λh=>A (.inl h)) t U v' al
 -- bT end
 intro D a w m aT be hI
 obtain⟨u,af,_,E,aC,ab,ax,aD,_,_,_⟩:=hI
 rw[Ŧ be] at E
 replace E:=E.2
 have bN:a.tmps=af.tmps:=by
  apply aab
  intro t
  exact aD t (λj q g _ A=>absurd (aT j (Ć.1 (J j q g).2).1) A)
 have:a=af:=by cases a; cases af; simp only at bN aC; subst bN; subst aC; rfl
 rw[this]
 exact E
theorem WC.tN{id:Nat}{Bt:Υ}{l0:Ŀ Oper}(e:∀ a w,wpAny P .any l.toArray Q l.toArray.size (Array.replicate l.toArray.size false) a { w with drawn:=w.drawn+1 }->(Code.region id l0.toArray true).wp P Q a w)(c:Mem.le G0 G->∀ (X:Gx) w,Gx.le (Gx.of G) X->jO w0 G0 X L w->Bt w)(fl:Ŀ Bool)(d:mm N l fl=true)(h:Mem.le G0 G->η P N Q fr w0 G0 G L l.toArray Bt fl l [] []):
  WC P N (.region id l0.toArray true) Q fr (St w0 G0 G L):=pQ e c fl d h
theorem WC.tO{id:Nat}{Bt:Υ}(a:Mem.le G0 G->∀ (X:Gx) w,Gx.le (Gx.of G) X->jO w0 G0 X L w->Bt w)(fl:Ŀ Bool)(d:P.follows .mixedOrders=true)(c:mm N l fl=true)(h:Mem.le G0 G->η P N Q fr w0 G0 G L l.toArray Bt fl l [] []):
  WC P N (.region id l.toArray true) Q fr (St w0 G0 G L):=WC.tN (λ_ _ k=>wp_region_any d k) a fl c h
theorem WC.drawn{id:Nat}(fl:Ŀ Bool)(c:P.follows .mixedOrders=true)(a:mm N l fl=true)(h:Mem.le G0 G->η P N Q fr w0 G0 G L l.toArray (λ_=>True) fl l [] []):
  WC P N (.region id l.toArray true) Q fr (St w0 G0 G L):=WC.tO (λ_ _ _ _ _=>trivial) fl c a h
end
def vK:TypeDesc->Bool
 | .struct _ | .array _ _=>false
 | _=>true
def ê(P:Program)(t:TypeId):Prop:=(P.underlying t).map vK=some true
def jd(P:Program)(t:TypeId)(n:Nat):Prop:=(P.underlying t).map vK=some false/\(P.info? t).map (·.size)=some n
theorem ê.run{P:Program}{t:TypeId}(h:ê P t)(w:World):(isAgg t).run P w = .ok false w:=by
 unfold ê at h
 cases a:P.underlying t with
 | none=>rw[a] at h; cases h
 | some d=>rw[a] at h; cases d <;> simp_all [isAgg,đ a,vK]
theorem jd.run{P:Program}{t:TypeId}{n:Nat}(h:jd P t n)(w:World):(isAgg t).run P w = .ok true w:=by
 have h:=h.1
 cases a:P.underlying t with
 | none=>rw[a] at h; cases h
 | some d=>rw[a] at h; cases d <;> simp_all [isAgg,đ a,vK]
theorem run_sizeOf{P:Program}{t:TypeId}{n:Nat}(h:(P.info? t).map (·.size)=some n)(w:World):(sizeOf t).run P w = .ok n w:=by
 cases a:P.info? t with
 | none=>simp[a] at h
 | some i=>simp[a] at h; simp[sizeOf,typeInfo,a,h]
section
variable {P:Program}{N:Nat}{fr:Fr}{S:Υ}{dst:ŀ Nat}{ty:TypeId}{pos:String}{af:Array Edge}{g:ŀ (Nat×Bool)}
theorem Y0.move{x:Operand}{v:Value}(d:fr.ev x=some v):Y0 P N ⟨dst,.move x,ty,pos,af,g⟩ fr S v:=λa w c _=>by simp[execOp,c.ev d]
theorem Y0.assign{x:Operand}{v:Value}(d:fr.ev x=some v):Y0 P N ⟨dst,.assign x,ty,pos,af,g⟩ fr S v:=λa w c _=>by simp[execOp,c.ev d]
theorem Y0.rS{c x y:Operand}{v:Value}(e:fr.ev c=some (.bool true))(f:fr.ev x=some v):Y0 P N ⟨dst,.pick c x y,ty,pos,af,g⟩ fr S v:=λa w d _=>by
 simp[execOp,d.ev e,d.ev f,asBool]
theorem Y0.rR{c x y:Operand}{v:Value}(e:fr.ev c=some (.bool false))(f:fr.ev y=some v):Y0 P N ⟨dst,.pick c x y,ty,pos,af,g⟩ fr S v:=λa w d _=>by
 simp[execOp,d.ev e,d.ev f,asBool]
theorem Y0.bin{op:BinOp}{t yt:TypeId}{x y:Operand}{c d v:Value}(i:fr.ev x=some c)(j:fr.ev y=some d)(f:∀ w,(eqGuard op t x y c d).run P w = .ok () w)(h:∀ w,(binOp op t c d).run P w = .ok v w):
  Y0 P N ⟨dst,.binOp op t x y yt,ty,pos,af,g⟩ fr S v:=λa w e _=>by
 simp[execOp,e.ev i,e.ev j,f w,h w]
theorem ZZ(op:BinOp)(t:TypeId)(x y:Operand)(k k':IntKind)(a b:Int)(w:World):(eqGuard op t x y (.int k a) (.int k' b)).run P w = .ok () w:=by
 cases op <;> simp[eqGuard]
theorem OO(op:BinOp)(t:TypeId)(x y:Operand)(a b:Bool)(w:World):(eqGuard op t x y (.bool a) (.bool b)).run P w = .ok () w:=by
 cases op <;> simp[eqGuard]
theorem HN(op:BinOp)(t:TypeId)(x y:Operand)(a b:Ĳ)(w:World):(eqGuard op t x y (.string a) (.string b)).run P w = .ok () w:=by
 cases op <;> simp[eqGuard]
section
variable {t yt:TypeId}{x y:Operand}{k:IntKind}{a b:Int}
theorem Y0.add(c:fr.ev x=some (.int k a))(d:fr.ev y=some (.int k b)):Y0 P N ⟨dst,.binOp .add t x y yt,ty,pos,af,g⟩ fr S (.int k (k.wrap (a+b))):=
 Y0.bin c d (ZZ _ _ _ _ _ _ _ _) λw=>by simp[binOp,Op.intArith]
theorem Y0.sub(c:fr.ev x=some (.int k a))(d:fr.ev y=some (.int k b)):Y0 P N ⟨dst,.binOp .sub t x y yt,ty,pos,af,g⟩ fr S (.int k (k.wrap (a-b))):=
 Y0.bin c d (ZZ _ _ _ _ _ _ _ _) λw=>by simp[binOp,Op.intArith]
theorem Y0.mul(c:fr.ev x=some (.int k a))(d:fr.ev y=some (.int k b)):Y0 P N ⟨dst,.binOp .mul t x y yt,ty,pos,af,g⟩ fr S (.int k (k.wrap (a*b))):=
 Y0.bin c d (ZZ _ _ _ _ _ _ _ _) λw=>by simp[binOp,Op.intArith]
theorem Y0.lss(c:fr.ev x=some (.int k a))(d:fr.ev y=some (.int k b)):Y0 P N ⟨dst,.binOp .lss t x y yt,ty,pos,af,g⟩ fr S (.bool (decide (a<b))):=
 Y0.bin c d (ZZ _ _ _ _ _ _ _ _) λw=>by simp[binOp,Op.intCmp]
theorem Y0.leq(c:fr.ev x=some (.int k a))(d:fr.ev y=some (.int k b)):Y0 P N ⟨dst,.binOp .leq t x y yt,ty,pos,af,g⟩ fr S (.bool (decide (a<=b))):=
 Y0.bin c d (ZZ _ _ _ _ _ _ _ _) λw=>by simp[binOp,Op.intCmp]
theorem Y0.gtr(c:fr.ev x=some (.int k a))(d:fr.ev y=some (.int k b)):Y0 P N ⟨dst,.binOp .gtr t x y yt,ty,pos,af,g⟩ fr S (.bool (decide (b<a))):=
 Y0.bin c d (ZZ _ _ _ _ _ _ _ _) λw=>by simp[binOp,Op.intCmp]
theorem Y0.geq(c:fr.ev x=some (.int k a))(d:fr.ev y=some (.int k b)):Y0 P N ⟨dst,.binOp .geq t x y yt,ty,pos,af,g⟩ fr S (.bool (decide (b<=a))):=
 Y0.bin c d (ZZ _ _ _ _ _ _ _ _) λw=>by simp[binOp,Op.intCmp]
theorem Ro(a b:Int):(a == b)=decide (a=b):=by by_cases h:a=b <;> simp[h]
theorem Y0.eql(c:fr.ev x=some (.int k a))(d:fr.ev y=some (.int k b)):Y0 P N ⟨dst,.binOp .eql t x y yt,ty,pos,af,g⟩ fr S (.bool (decide (a=b))):=
 Y0.bin c d (ZZ _ _ _ _ _ _ _ _) λw=>by rw[<- Ro]; simp[binOp,Op.intCmp]
theorem Y0.neq(c:fr.ev x=some (.int k a))(d:fr.ev y=some (.int k b)):Y0 P N ⟨dst,.binOp .neq t x y yt,ty,pos,af,g⟩ fr S (.bool (decide (¬ a=b))):=
 Y0.bin c d (ZZ _ _ _ _ _ _ _ _) λw=>by
  have:(a != b)=decide (¬ a=b):=by by_cases h:a=b <;> simp[h]
  rw[<- this]; simp[binOp,Op.intCmp]
theorem Y0.quo(d:fr.ev x=some (.int k a))(e:fr.ev y=some (.int k b))(c:b≠0):Y0 P N ⟨dst,.binOp .quo t x y yt,ty,pos,af,g⟩ fr S (.int k (k.wrap (a.tdiv b))):=
 Y0.bin d e (ZZ _ _ _ _ _ _ _ _) λw=>by simp[binOp,Op.intDiv,c]
theorem Y0.rem(d:fr.ev x=some (.int k a))(e:fr.ev y=some (.int k b))(c:b≠0):Y0 P N ⟨dst,.binOp .rem t x y yt,ty,pos,af,g⟩ fr S (.int k (a.tmod b)):=
 Y0.bin d e (ZZ _ _ _ _ _ _ _ _) λw=>by simp[binOp,Op.intDiv,c]
theorem Y0.shl{k':IntKind}(c:fr.ev x=some (.int k a))(d:fr.ev y=some (.int k' b))(e:0<=b):Y0 P N ⟨dst,.binOp .shl t x y yt,ty,pos,af,g⟩ fr S (.int k (k.wrap (a*2 ^ (min b.toNat k.bits)))):=
 Y0.bin c d (ZZ _ _ _ _ _ _ _ _) λw=>by
  have:¬ b<0:=by omega
  simp[binOp,Op.shift,this]
theorem Y0.shr{k':IntKind}(c:fr.ev x=some (.int k a))(d:fr.ev y=some (.int k' b))(e:0<=b):Y0 P N ⟨dst,.binOp .shr t x y yt,ty,pos,af,g⟩ fr S (.int k (a.fdiv (2 ^ (min b.toNat k.bits)))):=
 Y0.bin c d (ZZ _ _ _ _ _ _ _ _) λw=>by
  have:¬ b<0:=by omega
  simp[binOp,Op.shift,this]
theorem Y0.or(c:fr.ev x=some (.int k a))(d:fr.ev y=some (.int k b)):Y0 P N ⟨dst,.binOp .or t x y yt,ty,pos,af,g⟩ fr S (.int k (k.wrap (BitVec.ofInt k.bits a ||| BitVec.ofInt k.bits b).toNat)):=
 Y0.bin c d (ZZ _ _ _ _ _ _ _ _) λw=>by simp[binOp,Op.intBits]
theorem Y0.and(c:fr.ev x=some (.int k a))(d:fr.ev y=some (.int k b)):Y0 P N ⟨dst,.binOp .and t x y yt,ty,pos,af,g⟩ fr S (.int k (k.wrap (BitVec.ofInt k.bits a &&& BitVec.ofInt k.bits b).toNat)):=
 Y0.bin c d (ZZ _ _ _ _ _ _ _ _) λw=>by simp[binOp,Op.intBits]
theorem Y0.eq{o:Oper}{v a:Value}(h:Y0 P N o fr S v)(e:v=a):Y0 P N o fr S a:=e ▸ h
end
theorem run_equal_bool{t:TypeId}(c:P.underlying t=some .bool)(a b:Bool)(w:World):(Op.equal t (.bool a) (.bool b)).run P w = .ok (a == b) w:=by
 have h:∀ d,(Op.equalIn (d+1) t (.bool a) (.bool b)).run P w = .ok (a == b) w:=λd=>by simp[Op.equalIn,đ c]
 exact h 9999
theorem Y0.vv{t yt:TypeId}{x y:Operand}{a b:Bool}(c:P.underlying t=some .bool)(d:fr.ev x=some (.bool a))(e:fr.ev y=some (.bool b)):Y0 P N ⟨dst,.binOp .eql t x y yt,ty,pos,af,g⟩ fr S (.bool (decide (a=b))):=
 Y0.bin d e (OO _ _ _ _ _ _) λw=>by simp[binOp,run_equal_bool c]; cases a <;> cases b <;> rfl
theorem Y0.tZ{t yt:TypeId}{x y:Operand}{a b:Bool}(c:P.underlying t=some .bool)(d:fr.ev x=some (.bool a))(e:fr.ev y=some (.bool b)):Y0 P N ⟨dst,.binOp .neq t x y yt,ty,pos,af,g⟩ fr S (.bool (decide (¬ a=b))):=
 Y0.bin d e (OO _ _ _ _ _ _) λw=>by simp[binOp,run_equal_bool c]; cases a <;> cases b <;> rfl
theorem Y0.not{t:TypeId}{x:Operand}{b:Bool}(d:fr.ev x=some (.bool b)):Y0 P N ⟨dst,.unOp .not t x,ty,pos,af,g⟩ fr S (.bool (!b)):=λa w c _=>by simp[execOp,c.ev d,Op.unary]
theorem Y0.neg{t:TypeId}{x:Operand}{k:IntKind}{n:Int}(d:fr.ev x=some (.int k n)):Y0 P N ⟨dst,.unOp .neg t x,ty,pos,af,g⟩ fr S (.int k (k.wrap (0-n))):=λa w c _=>by simp[execOp,c.ev d,Op.unary,Op.intArith]
theorem Y0.conv{s d:TypeId}{x:Operand}{c:TypeDesc}{k k':IntKind}{n:Int}(h:P.underlying s=some c)(f:P.underlying d=some (.int k'))(i:fr.ev x=some (.int k n)):Y0 P N ⟨dst,.convert s d x,ty,pos,af,g⟩ fr S (.int k' (k'.wrap n)):=λa w e _=>by
 simp[execOp,e.ev i,convert,đ h,đ f,Conv.intToInt]
theorem Y0.extract{x:Operand}{i:Nat}{vs:Array Value}{v:Value}(e:fr.ev x=some (.tuple vs))(d:vs[i]? = some v):Y0 P N ⟨dst,.extract x i,ty,pos,af,g⟩ fr S v:=λa w c _=>by
 simp[execOp,c.ev e,Instr.extract,d]
theorem A5{t:TypeId}{cs:Array Value}{off:Nat}{v:Value}(a:ê P t)(c:cs[off]? = some v)(w:World):(part t cs off).run P w = .ok v w:=by
 simp[part,a.run,c]
theorem Y0.index{t e:TypeId}{x y:Operand}{len:Nat}{cs:Array Value}{k:IntKind}{i:Int}{v:Value}(j:P.underlying t=some (.array len e))(h:ê P e)(c:(P.info? e).map (·.size)=some 1)
  (m:fr.ev x=some (.agg cs)) (n:fr.ev y=some (.int k i)) (hi:0<=i/\i<len) (f:cs[i.toNat]? = some v):Y0 P N ⟨dst,.index t x y,ty,pos,af,g⟩ fr S v:=λa w d _=>by
 have l:cs[i.toNat*1]? = some v:=by simpa using f
 simp[execOp,d.ev m,d.ev n,Instr.index,asIntOf,đ j,hi,run_sizeOf c,A5 h f]
theorem rD(b off n:Nat):(⟨b,off,none⟩:Addr).add n=⟨b,off+n,none⟩:=by
 unfold Addr.add
 split
 .rename_i h; subst h; rfl
 rfl
theorem Y0.oQ{t e:TypeId}{x y:Operand}{len b off sz:Nat}{k:IntKind}{i:Int}(f:P.underlying t=some (.array len e))(c:(P.info? e).map (·.size)=some sz)
  (h:fr.ev x=some (.pointer (some ⟨b,off,none⟩))) (j:fr.ev y=some (.int k i)) (hi:0<=i/\i<len):Y0 P N ⟨dst,.indexAddr t x y,ty,pos,af,g⟩ fr S (.pointer (some ⟨b,off+i.toNat*sz,none⟩)):=λa w d _=>by
 simp[execOp,d.ev h,d.ev j,Instr.indexAt,asIntOf,đ f,hi,run_sizeOf c,Instr.sureAddr,rD]
theorem Y0.tU{t e:TypeId}{x y:Operand}{len cap b off sz:Nat}{k:IntKind}{i:Int}(f:P.underlying t=some (.slice e))(c:(P.info? e).map (·.size)=some sz)
  (h:fr.ev x=some (.slice (some ⟨b,off,none⟩) len cap)) (j:fr.ev y=some (.int k i)) (hi:0<=i/\i<len):Y0 P N ⟨dst,.indexAddr t x y,ty,pos,af,g⟩ fr S (.pointer (some ⟨b,off+i.toNat*sz,none⟩)):=λa w d _=>by
 simp[execOp,d.ev h,d.ev j,Instr.indexAt,asIntOf,đ f,hi,run_sizeOf c,rD]
theorem Y0.fieldAddr{s:TypeId}{x:Operand}{f b off:Nat}{fs:Array Field}{c:Field}(h:P.underlying s=some (.struct fs))(e:fs[f]? = some c)(hp:∀ w,(fieldPlace ⟨b,off,none⟩ c).run P w = .ok ⟨b,off+c.offset,none⟩ w)
  (i:fr.ev x=some (.pointer (some ⟨b,off,none⟩))):Y0 P N ⟨dst,.fieldAddr s x f,ty,pos,af,g⟩ fr S (.pointer (some ⟨b,off+c.offset,none⟩)):=λa w d _=>by
 simp[execOp,d.ev i,Instr.fieldAt,đ h,e,Instr.sureAddr,hp w]
theorem Y0.build{t:TypeId}{parts:Array (Nat×Operand)}{vs:Array (Nat×Value)}{v:Value}(c:fr.nX (parts.toList.map (·.2))=some (vs.toList.map (·.2)))(d:parts.toList.map (·.1)=vs.toList.map (·.1))
  (h:∀ w,(Instr.build t vs).run P w = .ok v w):Y0 P N ⟨dst,.build t parts,ty,pos,af,g⟩ fr S v:=λa w r _=>by
 have f:=r.nX _ _ c
 have m:(parts.map λp=>(p.1,a.eval p.2))=vs:=by
  apply fj
  simp only[aaP]
  have j:parts.toList.length=vs.toList.length:=by have:=ć List.length d; simpa using this
  generalize parts.toList=ps at *
  generalize vs.toList=e at *
  induction ps generalizing e with
  | nil=>cases e <;> simp_all
  | cons p ps s=>
   cases e with
   | nil=>simp at j
   | cons q e=>
    simp only[ė,fv] at d f ⊢
    refine⟨abR d.1 f.1,?_⟩
    simp only[Fr.nX,ė] at c
    split at c
    .rename_i A u y l
     simp only[Ď,fv] at c
     exact s e (by rw[l,c.2]) d.2 f.2 (by simpa using j)
    cases c
 have n:(parts.map λ(i,x)=>(i,a.eval x))=vs:=m
 simp only[execOp,n]
 simp[h w]
theorem Y0.makeFunc{fn:Fn}{first c:Array Operand}{d e:Ŀ Value}(j:fr.nX first.toList=some d)(l:fr.nX c.toList=some e):Y0 P N ⟨dst,.makeFunc fn first c,ty,pos,af,g⟩ fr S (.func fn d.toArray e.toArray):=λa w f _=>by
 have h:first.map a.eval=d.toArray:=by apply fj; simpa using f.nX _ _ j
 have i:c.map a.eval=e.toArray:=by apply fj; simpa using f.nX _ _ l
 simp[execOp,h,i,Instr.makeFunc]
theorem Y0.wQ{x:Operand}{t e:TypeId}{p:ŀ Addr}{n cap:Nat}(d:P.underlying t=some (.slice e))(f:fr.ev x=some (.slice p n cap)):Y0 P N ⟨dst,.call ⟨.builtin .len,#[x],#[t]⟩,ty,pos,af,g⟩ fr S (.int .i64 (n:Int)):=λa w c _=>by
 simp[execOp,resolve,invoke,builtin,c.ev f,Builtin.len_,đ d,goInt]
theorem Y0.max2{x y:Operand}{f:Array TypeId}{k k':IntKind}{a b:Int}(d:fr.ev x=some (.int k a))(e:fr.ev y=some (.int k' b)):Y0 P N ⟨dst,.call ⟨.builtin .max,#[x,y],f⟩,ty,pos,af,g⟩ fr S (.int k (if a<b then b else a)):=λA w c _=>by
 simp[execOp,resolve,invoke,builtin,c.ev d,c.ev e,Builtin.max_,Builtin.max2]
theorem Y0.min2{x y:Operand}{f:Array TypeId}{k k':IntKind}{a b:Int}(d:fr.ev x=some (.int k a))(e:fr.ev y=some (.int k' b)):Y0 P N ⟨dst,.call ⟨.builtin .min,#[x,y],f⟩,ty,pos,af,g⟩ fr S (.int k (if b<a then b else a)):=λA w c _=>by
 simp[execOp,resolve,invoke,builtin,c.ev d,c.ev e,Builtin.min_,Builtin.min2]
end
end Go.EL

namespace Go.EL
open Go.IntKind (i8 i16 i32 i64 u8 u16 u32 u64)
open Go Go.RowKit Go.Proofs
section
variable {w0:Bs}{G0 G:Mem}{L:Lo}{w w':World}
theorem St.sJ{i m':Nat}{x:Ow}{o':Obj}(h:St w0 G0 G L w)(hi:L.get i=some x)(H:w'.heap[x.b]? = some o')(J:x.m<=m')(I:∀ k v,k<x.m->G x.b k=some v->w'.cell? ⟨x.b,k,none⟩=some v)(u:∀ k,k≠x.b->w'.heap[k]? = w.heap[k]?)
  (C:w'.os=w.os) (D:w'.tape=w.tape) (E:w'.output=w.output) (F:w'.drawn=w.drawn) (Q:w'.heap.size=w.heap.size):St w0 G0 G ((i,some ⟨x.b,o',m'⟩)::L) w':=by
 obtain⟨R,q,B⟩:=h.loc i x hi
 refine⟨C.trans h.os,D.trans h.tape,E.trans h.output,by rw[F]; exact h.drawn,by have:=h.size; omega,λk g A=>?_,h.base,λb' d v r=>?_,h.fresh,λj y n=>?_,λj k y z f l m=>?_⟩
 .rw[u k (λe=>?_)]
  .exact h.block k g A
  subst e
  rcases q with ⟨y,q,K⟩|q
  .exact A i y q K
  omega
 .by_cases f:b'=x.b
  .subst f
   refine I d v ?_ r
   rcases Ś d x.m with t|s
   .exact t
   rw[B d s] at r; cases r
  rw[World.cell?_of_block (w:=w) (a:=⟨b',d,none⟩) (u b' f)]
  exact h.ls b' d v r
 .rw[Lo.Zn] at n
  split at n
  .rename_i c
   subst c
   simp only[Ď] at n
   subst n
   exact⟨H,q,λk g=>B k (ł J g)⟩
  rename_i c
  obtain⟨N,O,P⟩:=h.loc j y n
  exact⟨by rw[u y.b (λe=>h.gY i j x y c hi n e.symm)]; exact N,O,P⟩
 rw[Lo.Zn] at l m
 split at l <;> split at m
 .omega
 .rename_i c p
  simp only[Ď] at l
  subst l
  exact h.gY i k x z p hi m
 .rename_i c p
  simp only[Ď] at m
  subst m
  exact h.gY j i y x (λe=>c e.symm) l hi
 exact h.gY j k _ _ f l m
theorem St.push(i:Nat)(o:Obj)(h:St w0 G0 G L w):St w0 G0 G ((i,some ⟨w.heap.size,o,0⟩)::L) (w.alloc o):=by
 have p:=h.size
 have lt:∀ j y,L.get j=some y->y.b<w.heap.size:=λj y c=>(Ĉ.1 (h.loc j y c).1).1
 refine⟨h.os,h.tape,h.output,h.drawn,by simp; omega,λk g n=>?_,h.base,λb' f v m=>?_,h.fresh,λj y c=>?_,λj k y z l d e=>?_⟩
 .rw[aaQ w o k (by omega)]
  exact h.block k g n
 .have:=h.ls.lt m
  rw[World.cell?_alloc_lt (w:=w) (o:=o) (a:=⟨b',f,none⟩) this]
  exact h.ls b' f v m
 .rw[Lo.Zn] at c
  split at c
  .simp only[Ď] at c
   subst c
   refine⟨heap_alloc_new w o,.inr p,λk _=>?_⟩
   cases g:G w.heap.size k with
   | none=>rfl
   | some v=>have:=h.ls.lt g; omega
  obtain⟨q,r,s⟩:=h.loc j y c
  exact⟨by rw[aaQ w o y.b (lt j y c)]; exact q,r,s⟩
 rw[Lo.Zn] at d e
 split at d <;> split at e
 .omega
 .simp only[Ď] at d
  subst d
  have:=lt _ _ e
  dsimp only; omega
 .simp only[Ď] at e
  subst e
  have:=lt _ _ d
  dsimp only; omega
 exact h.gY j k _ _ l d e
def Mem.row(G:Mem)(b:Nat)(c:Array Value)(m n:Nat):Mem:=λb' o=>if b'=b/\m<=o/\o<n then c[o]? else G b' o
theorem Mem.RE{b m:Nat}{c:Array Value}{n:Nat}(h:∀ k,m<=k->G b k=none):Mem.le G (Mem.row G b c m n):=λb' o v a=>by
 unfold Mem.row
 rw[Ā (λe=>by obtain⟨d,f,_⟩:=e; subst d; rw[h _ f] at a; cases a)]
 exact a
theorem Mem.yc{b o m:Nat}{c:Array Value}{n:Nat}(a:m<=o)(h:o<n):Mem.row G b c m n b o=c[o]?:=by simp[Mem.row,a,h]
theorem St.q9{i b m n:Nat}{c:Array Value}{t:TypeId}(h:St w0 G0 G L w)(hi:L.get i=some ⟨b,.cells c t (0,0),m⟩)(E:w0.L.get i=none)(s:m<=n):
  St w0 G0 (Mem.row G b c m n) ((i,some ⟨b,.cells c t (0,0),n⟩)::L) w/\Mem.le G (Mem.row G b c m n):=by
 obtain⟨B,C,D⟩:=h.loc i _ hi
 have q:=Mem.RE (c:=c) (n:=n) D
 have A:w0.w.heap.size<=b:=C.resolve_left (λ⟨y,e,_⟩=>by rw[E] at e; cases e)
 refine⟨⟨h.os,h.tape,h.output,h.drawn,h.size,h.block,Mem.le_trans h.base q,λb' o v f=>?_,λb' o v f=>?_,λj y l=>?_,λj k y z u d g=>?_⟩,q⟩
 .unfold Mem.row at f
  split at f
  .rename_i e
   obtain⟨d,_,_⟩:=e
   subst d
   rw[ŧ w b' o c t (0,0) B]; exact f
  exact h.ls b' o v f
 .unfold Mem.row at f
  split at f
  .rename_i e
   obtain⟨d,_,_⟩:=e
   subst d
   exact .inr (.inl A)
  exact h.fresh b' o v f
 .rw[Lo.Zn] at l
  split at l
  .rename_i a
   subst a
   simp only[Ď] at l
   subst l
   refine⟨B,C,λk r=>?_⟩
   unfold Mem.row
   rw[if_neg (by dsimp only at r ⊢; omega)]
   exact D k (ł s r)
  rename_i a
  obtain⟨H,I,J⟩:=h.loc j y l
  refine⟨H,I,λk r=>?_⟩
  have F:y.b≠b:=λe=>h.gY i j _ y a hi l e.symm
  unfold Mem.row
  rw[Ā (λe=>F e.1)]
  exact J k r
 rw[Lo.Zn] at d g
 split at d <;> split at g
 .omega
 .rename_i a p
  simp only[Ď] at d
  subst d
  exact h.gY i k ⟨b,.cells c t (0,0),m⟩ z p hi g
 .rename_i a p
  simp only[Ď] at g
  subst g
  exact h.gY j i y ⟨b,.cells c t (0,0),m⟩ (λe=>a e.symm) d hi
 exact h.gY j k _ _ u d g
theorem St.î{i j:Nat}{x:ŀ Ow}(h:St w0 G0 G L w)(hi:L.get i=x)(n:w0.L.get i=none):St w0 G0 G ((j,x)::(i,none)::L) w:=by
 have key:∀ k y,Lo.get ((j,x)::(i,none)::L) k=some y->(k=j/\L.get i=some y)\/(k≠j/\k≠i/\L.get k=some y):=by
  intro k y a
  rw[Lo.Zn] at a
  split at a
  .rename_i e; exact .inl ⟨e.symm,by rw[hi]; exact a⟩
  rename_i e
  rw[Lo.Zn] at a
  split at a
  .cases a
  rename_i e'; exact .inr ⟨λq=>e q.symm,λq=>e' q.symm,a⟩
 refine⟨h.os,h.tape,h.output,h.drawn,h.size,h.block,h.base,h.ls,h.fresh,λk y a=>?_,λk l y z f g m=>?_⟩
 .rcases key k y a with ⟨rfl,c⟩|⟨_,_,c⟩
  .obtain⟨s,t,u⟩:=h.loc i y c
   exact⟨s,.inr (t.resolve_left (λ⟨y,e,_⟩=>by rw[n] at e; cases e)),u⟩
  exact h.loc k y c
 rcases key k y g with ⟨rfl,c⟩|⟨v,p,c⟩ <;> rcases key l z m with ⟨rfl,d⟩|⟨A,r,d⟩
 .omega
 .exact h.gY i l y z (λe=>r e.symm) c d
 .exact h.gY k i y z p c d
 exact h.gY k l y z f c d
end
section
variable {P:Program}{N:Nat}{Q:õ}{fr:Fr}{S:Υ}{ops:Array Oper}{l:Ŀ Oper}{dst:ŀ Nat}{ty:TypeId}{pos:String}{af:Array Edge}{g:ŀ (Nat×Bool)}
variable {w0:Bs}{G0 G:Mem}{L:Lo}
theorem AT{t:TypeId}{a:Addr}{v:Value}{w:World}(d:ê P t)(c:w.cell? a=some v):(loadVar t a).run P w = .ok v w:=by
 simp[loadVar,d.run,load,Sem.run,c]
theorem DF{t:TypeId}{b off n:Nat}{vs:Ŀ Value}{w:World}(a:jd P t n)(d:vs.length=n)(c:∀ j v,vs[j]? = some v->w.cell? ⟨b,off+j,none⟩=some v):
  (loadVar t ⟨b,off,none⟩).run P w = .ok (.agg vs.toArray) w:=by
 have:=aa5 (P:=P) w ⟨b,off,none⟩ vs (λj v e=>by rw[rD]; exact c j v e)
 subst d
 simp[loadVar,a.run,run_sizeOf a.2,this]
theorem Y0.gN{t t':TypeId}{x:Operand}{b off m:Nat}{c:Array Value}{v:Value}(i:Nat)(h:ê P t)(l:fr.ev x=some (.pointer (some ⟨b,off,none⟩)))
  (hi:L.get i=some ⟨b,.cells c t' (0,0),m⟩) (j:c[off]? = some v):Y0 P N ⟨dst,.load t x,ty,pos,af,g⟩ fr (St w0 G0 G L) v:=λa w e f=>by
 have d:=ŧ w b off c t' (0,0) (f.loc i _ hi).1
 rw[j] at d
 simp[execOp,e.ev l,Instr.loadAt,Instr.sureAddr,AT h d]
theorem Y0.js{t t':TypeId}{x:Operand}{b n m:Nat}{c:Array Value}(i:Nat)(p:jd P t n)(q:fr.ev x=some (.pointer (some ⟨b,0,none⟩)))
  (hi:L.get i=some ⟨b,.cells c t' (0,0),m⟩) (h:c.size=n):Y0 P N ⟨dst,.load t x,ty,pos,af,g⟩ fr (St w0 G0 G L) (.agg c):=λa w d l=>by
 have e:=DF (P:=P) (w:=w) (b:=b) (off:=0) (vs:=c.toList) p (by simpa using h) (λj v f=>by
  rw[ŧ w b (0+j) c t' (0,0) (l.loc i _ hi).1]
  simpa using f)
 simp[execOp,d.ev q,Instr.loadAt,Instr.sureAddr,e]
theorem Y0.yF{t t':TypeId}{x:Operand}{b off n m:Nat}{c:Array Value}(vs:Array Value)(i:Nat)(p:jd P t n)(r:fr.ev x=some (.pointer (some ⟨b,off,none⟩)))
  (hi:L.get i=some ⟨b,.cells c t' (0,0),m⟩) (h:vs.size=n) (q:∀ j v,vs[j]? = some v->c[off+j]? = some v):Y0 P N ⟨dst,.load t x,ty,pos,af,g⟩ fr (St w0 G0 G L) (.agg vs):=λa w d l=>by
 have e:=DF (P:=P) (w:=w) (b:=b) (off:=off) (vs:=vs.toList) p (by simpa using h) (λj v f=>by
  rw[ŧ w b (off+j) c t' (0,0) (l.loc i _ hi).1]
  exact q j v (by simpa using f))
 simp[execOp,d.ev r,Instr.loadAt,Instr.sureAddr,e]
theorem Y0.kU{t:TypeId}{x:Operand}{b off:Nat}{v:Value}(f:ê P t)(i:fr.ev x=some (.pointer (some ⟨b,off,none⟩)))
  (h:G b off=some v):Y0 P N ⟨dst,.load t x,ty,pos,af,g⟩ fr (St w0 G0 G L) v:=λa w c e=>by
 have d:=e.ls b off v h
 simp[execOp,c.ev i,Instr.loadAt,Instr.sureAddr,AT f d]
theorem Y0.re{t:TypeId}{x:Operand}{b off n:Nat}(vs:Array Value)(i:jd P t n)(m:fr.ev x=some (.pointer (some ⟨b,off,none⟩)))
  (f:vs.size=n) (l:∀ j v,vs[j]? = some v->G b (off+j)=some v):Y0 P N ⟨dst,.load t x,ty,pos,af,g⟩ fr (St w0 G0 G L) (.agg vs):=λa w c h=>by
 have d:=DF (P:=P) (w:=w) (b:=b) (off:=off) (vs:=vs.toList) i (by simpa using f) (λj v e=>h.ls _ _ _ (l j v (by simpa using e)))
 simp[execOp,c.ev m,Instr.loadAt,Instr.sureAddr,d]
theorem Y3{t:TypeId}{z:Value}(d:(P.info? t).map (·.zero)=some (some z))(a:Act)(w:World):(execOp a.eval ⟨dst,.alloc t,ty,pos,af,g⟩).run P w = .ok (.value (.pointer (some ⟨w.heap.size,0,none⟩))) (w.alloc (.cells z.cells t)):=by
 cases c:P.info? t with
 | none=>simp[c] at d
 | some e=>
  simp only[c,Ĥ,Ď] at d
  simp[execOp,Instr.alloc,zeroValue,typeInfo,c,d,newVar,newRow]
theorem WL.alloc{t:TypeId}{z:Value}(i:Nat)(m:κ ops fr ⟨dst,.alloc t,ty,pos,af,g⟩ true)(e:(P.info? t).map (·.zero)=some (some z))(j:è N dst)
  (k:∀ b,WL P N ops Q l (ξ dst (.pointer (some ⟨b,0,none⟩)) fr) (St w0 G0 G ((i,some ⟨b,.cells z.cells t (0,0),0⟩)::L))):WL P N ops Q (⟨dst,.alloc t,ty,pos,af,g⟩::l) fr (St w0 G0 G L):=by
 refine WL.yr (Φ:=λv w=>∃ b,v = .pointer (some ⟨b,0,none⟩)/\St w0 G0 G ((i,some ⟨b,.cells z.cells t (0,0),0⟩)::L) w) m (λa w f d=>?_) j (λv a w f ⟨b,h,d⟩=>?_)
 .cases c:P.info? t with
  | none=>simp[c] at e
  | some n=>
   simp only[c,Ĥ,Ď] at e
   have:(execOp a.eval ⟨dst,.alloc t,ty,pos,af,g⟩).run P w = .ok (.value (.pointer (some ⟨w.heap.size,0,none⟩))) (w.alloc (.cells z.cells t)):=by
    simp[execOp,Instr.alloc,zeroValue,typeInfo,c,e,newVar,newRow]
   rw[this]
   exact⟨_,rfl,d.push i _⟩
 subst h
 exact k b a w f d
theorem WL.box{t:TypeId}{x:Operand}{v:Value}(i:Nat)(h:κ ops fr ⟨dst,.box t x,ty,pos,af,g⟩ true)(j:fr.ev x=some v)(f:è N dst)
  (k:∀ b,WL P N ops Q l (ξ dst (.pointer (some ⟨b,0,none⟩)) fr) (St w0 G0 G ((i,some ⟨b,.cells v.cells t (0,0),0⟩)::L))):WL P N ops Q (⟨dst,.box t x,ty,pos,af,g⟩::l) fr (St w0 G0 G L):=by
 refine WL.yr (Φ:=λm w=>∃ b,m = .pointer (some ⟨b,0,none⟩)/\St w0 G0 G ((i,some ⟨b,.cells v.cells t (0,0),0⟩)::L) w) h (λa w c d=>?_) f (λv a w c ⟨b,e,d⟩=>?_)
 .have:(execOp a.eval ⟨dst,.box t x,ty,pos,af,g⟩).run P w = .ok (.value (.pointer (some ⟨w.heap.size,0,none⟩))) (w.alloc (.cells v.cells t)):=by
   simp[execOp,Instr.box,c.ev j,newVar,newRow]
  rw[this]
  exact⟨_,rfl,d.push i _⟩
 subst e
 exact k b a w c d
theorem Nv{w:World}{b off:Nat}{c:Array Value}{t:TypeId}{v:Value}(h:w.heap[b]? = some (.cells c t (0,0))):(w.setCell ⟨b,off,none⟩ v).heap[b]? = some (.cells (c.setIfInBounds off v) t (0,0)):=heap_setCell_same w b off c t v h
theorem WL.iE{t t':TypeId}{x y:Operand}{b off:Nat}{c:Array Value}{v:Value}(i:Nat)(c':Array Value)(r:κ ops fr ⟨none,.store t x y,ty,pos,af,g⟩ true)(u:(P.info? t).map (·.size)=some 1)
  (A:fr.ev x=some (.pointer (some ⟨b,off,none⟩))) (B:fr.ev y=some v) (hi:L.get i=some ⟨b,.cells c t' (0,0),0⟩) (s:off<c.size) (j:v.oneCell'=true) (e:c.setIfInBounds off v=c')
  (k:WL P N ops Q l fr (St w0 G0 G ((i,some ⟨b,.cells c' t' (0,0),0⟩)::L))):WL P N ops Q (⟨none,.store t x y,ty,pos,af,g⟩::l) fr (St w0 G0 G L):=by
 subst e
 refine WL.FV r (λa w m p=>?_) k
 have d:=(p.loc i _ hi).1
 refine⟨w.setCell ⟨b,off,none⟩ v,?_,p.sJ hi (Nv d) (č _) (λk _ h _=>absurd h (ō k)) (λk h=>Below.heap_setCell w ⟨b,off,none⟩ v k h) rfl rfl rfl rfl (by simp)⟩
 have n:=ŧ w b off c t' (0,0) d
 rw[Ń s] at n
 have q:=frozen_of_row w b off c t' d
 have f:v.cells = #[v]:=by cases v <;> first|rfl|simp[Value.oneCell'] at j
 simp[execOp,m.ev A,m.ev B,Instr.storeAt,Instr.sureAddr,storeVar,run_sizeOf u,f,storeCells,run_store P w _ v _ j,rD,n,q]
theorem WL.jw{t t':TypeId}{x y:Operand}{b n:Nat}{c c':Array Value}(i:Nat)(q:κ ops fr ⟨none,.store t x y,ty,pos,af,g⟩ true)(s:(P.info? t).map (·.size)=some n)
  (v:fr.ev x=some (.pointer (some ⟨b,0,none⟩))) (A:fr.ev y=some (.agg c')) (hi:L.get i=some ⟨b,.cells c t' (0,0),0⟩) (B:c.size=n) (f:c'.size=n) (p:∀ u ∈ c'.toList,u.oneCell'=true)
  (k:WL P N ops Q l fr (St w0 G0 G ((i,some ⟨b,.cells c' t' (0,0),0⟩)::L))):WL P N ops Q (⟨none,.store t x y,ty,pos,af,g⟩::l) fr (St w0 G0 G L):=by
 refine WL.FV q (λa w h m=>?_) k
 have j:=(m.loc i _ hi).1
 have r:=run_storeVar_row (P:=P) w b t' t c c' j (by rw[s,f]) (by omega) (by rw[Array.all_eq_true]; intro i hi; exact p _ (by simp))
 refine⟨w.setRow b c',?_,m.sJ hi ?_ (č _) (λk _ d _=>absurd d (ō k)) (λk d=>?_) rfl rfl rfl rfl (by simp[World.setRow])⟩
 .simp[execOp,h.ev v,h.ev A,Instr.storeAt,Instr.sureAddr,r]
 .simp[World.setRow,ħ,j]
 simp only[World.setRow,ħ]
 rw[Ā (λe=>d e.symm)]
theorem WL.vM{t t':TypeId}{x y:Operand}{b off n:Nat}{c vs:Array Value}(i:Nat)(c':Array Value)(s:κ ops fr ⟨none,.store t x y,ty,pos,af,g⟩ true)(v:(P.info? t).map (·.size)=some n)
  (A:fr.ev x=some (.pointer (some ⟨b,off,none⟩))) (B:fr.ev y=some (.agg vs)) (hi:L.get i=some ⟨b,.cells c t' (0,0),0⟩) (m:vs.size=n) (C:off+n<=c.size) (r:∀ u ∈ vs.toList,u.oneCell'=true)
  (d:(c.toList.take off++vs.toList++c.toList.drop (off+n)).toArray=c')
  (k:WL P N ops Q l fr (St w0 G0 G ((i,some ⟨b,.cells c' t' (0,0),0⟩)::L))):WL P N ops Q (⟨none,.store t x y,ty,pos,af,g⟩::l) fr (St w0 G0 G L):=by
 subst d
 refine WL.FV s (λa w h q=>?_) k
 have j:=(q.loc i _ hi).1
 have p:=abi P b off t' vs.toList 0 c w j (by simp; omega) r
 simp only[ŷ,Ĭ,m] at p
 refine⟨w.setRow b (c.toList.take off++vs.toList++c.toList.drop (off+n)).toArray,?_,q.sJ hi ?_ (č _) (λk _ f _=>absurd f (ō k)) (λk f=>?_) rfl rfl rfl rfl (by simp[World.setRow])⟩
 .simp[execOp,h.ev A,h.ev B,Instr.storeAt,Instr.sureAddr,storeVar,Value.cells,run_sizeOf v,m,p]
 .simp[World.setRow,ħ,j]
 simp only[World.setRow,ħ]
 rw[Ā (λe=>f e.symm)]
theorem YC.of{f:FuncId}{args:Array Operand}{c:Array TypeId}{vs:Ŀ Value}(h:Enters P f)(i:fr.nX args.toList=some vs):YC P N ⟨dst,.call ⟨.value (.func f),args,c⟩,ty,pos,af,g⟩ fr S f vs.toArray:=λa w e _=>by
 have d:args.map a.eval=vs.toArray:=by apply fj; simpa using e.nX _ _ i
 simpa [execOp,resolve,d,Act.eval,Deferred.ofValue,invoke] using h vs.toArray w
theorem YC.vE{f:FuncId}{x:Operand}{args:Array Operand}{c:Array TypeId}{vs:Ŀ Value}{cap:Array Value}(h:Enters P f)(j:fr.ev x=some (.func (.func f) #[] cap))(i:fr.nX args.toList=some vs):
  YC P N ⟨dst,.call ⟨.value x,args,c⟩,ty,pos,af,g⟩ fr S f (vs.toArray++cap):=λa w d _=>by
 have e:args.map a.eval=vs.toArray:=by apply fj; simpa using d.nX _ _ i
 simpa [execOp,resolve,e,d.ev j,Deferred.ofValue,invoke] using h (vs.toArray++cap) w
theorem St.hp{d:Lo}{w:World}(h:St w0 G0 G L w)(a:Lo.sub d L):Hp G d w:=
 ⟨h.ls,λi x e=>⟨(h.loc i x (a _ _ e)).1,(h.loc i x (a _ _ e)).2.2⟩,λi j x y c e e'=>h.gY i j x y c (a _ _ e) (a _ _ e')⟩
theorem Ext.nil{w w':World}{G':Mem}{L':Lo}(h:Ext w G [] w' G' L'):Ext w G [] w' G' []:={ h with loc:=λi x a=>by simp[Lo.get] at a,gY:=λi j x y _ a=>by simp[Lo.get] at a }
def Lo.É(L:Lo)(ks:Ŀ Nat):Lo:=ks.map (λk=>(k,none))++L
theorem Lo.Bg{L:Lo}{i:Nat}:∀ {ks:Ŀ Nat}{x:Ow},(L.É ks).get i=some x->L.get i=some x/\i ∉ ks
 | [],_,h=>⟨h,by simp⟩
 | k::ks,x,h=>by
  simp only[Lo.É,ė,Ħ] at h
  rw[Lo.Zn] at h
  split at h
  .cases h
  rename_i a
  obtain⟨c,d⟩:=Lo.Bg (ks:=ks) h
  exact⟨c,by simp only[ą,not_or]; exact⟨λe=>a e.symm,d⟩⟩
theorem Lo.get_append(A B:Lo)(i:Nat)(x:Ow)(h:Lo.get (A++B) i=some x):A.get i=some x\/B.get i=some x:=by
 induction A with
 | nil=>exact .inr h
 | cons p A a=>
  obtain⟨k,q⟩:=p
  simp only[Ħ] at h
  rw[Lo.Zn] at h
  rw[Lo.Zn]
  split at h
  .rename_i e; rw[Ă e]; exact .inl h
  rename_i e
  rw[Ā e]
  exact a h
theorem YC.yr{o:Oper}{f:FuncId}{args c:Array Value}{d:Mem->Prop}{post:Mem->Value->Prop}(h:YC P N o fr (St w0 G0 G L) f c)(p:ä P f args d post)(e:c=args)(hp:d G):
  YR P N o fr (St w0 G0 G L) (λv w'=>∃ G',Mem.le G G'/\St w0 G0 G' L w'/\post G' v):=λa w l g=>by
 rw[h a w l g]
 subst e
 exact (p w G (g.hp (Lo.Zs _)) hp).mono λe' w' ⟨r,G',L',m,j,n⟩=>⟨r,m,G',j.le,g.ext j.nil (Lo.Zs _) (λ_ _ h=>h) (λ_ _ _=>rfl) (λi x y hi=>by simp[Lo.get] at hi) (λ_ _ h=>.inr h),n⟩
theorem WL.call{op:Op}{f:FuncId}{args c:Array Value}{d:Mem->Prop}{post:Mem->Value->Prop}(q:κ ops fr ⟨dst,op,ty,pos,af,g⟩ true)(p:è N dst)(h:YC P N ⟨dst,op,ty,pos,af,g⟩ fr (St w0 G0 G L) f c)
  (r:ä P f args d post) (e:c=args) (hp:d G) (k:∀ v G',Mem.le G G'->post G' v->WL P N ops Q l (ξ dst v fr) (St w0 G0 G' L)):WL P N ops Q (⟨dst,op,ty,pos,af,g⟩::l) fr (St w0 G0 G L):=
 WL.yr q (h.yr r e hp) p (λv a w n ⟨G',i,j,m⟩=>k v G' i m a w n j)
theorem YC.y0{o:Oper}{f:FuncId}{args d:Array Value}{g:Mem->Prop}{c:Value}(h:YC P N o fr (St w0 G0 G L) f d)(p:ä P f args g (λ_ r=>r=c))(e:d=args)(hp:g G):
  YR P N o fr (St w0 G0 G L) (λv w'=>v=c/\St w0 G0 G L w'):=λa w n i=>(h.yr p e hp a w n i).mono λ_ _ ⟨_,j,l,m⟩=>⟨m,l.jt i.base j⟩
theorem WL.nf{op:Op}{f:FuncId}{args d:Array Value}{i:Mem->Prop}{c:Value}(q:κ ops fr ⟨dst,op,ty,pos,af,g⟩ true)(p:è N dst)(h:YC P N ⟨dst,op,ty,pos,af,g⟩ fr (St w0 G0 G L) f d)
  (s:ä P f args i (λ_ r=>r=c)) (e:d=args) (hp:i G) (k:WL P N ops Q l (ξ dst c fr) (St w0 G0 G L)):WL P N ops Q (⟨dst,op,ty,pos,af,g⟩::l) fr (St w0 G0 G L):=
 WL.yr q (h.y0 s e hp) p (λv a w n ⟨j,m⟩=>by subst j; exact k a w n m)
theorem jO.ext{g:Gx}{G':Mem}{w w':World}(h:jO w0 G0 g L w)(e:Ext w g.m [] w' G' []):jO w0 G0 ⟨G',g.x⟩ L w' where
 st:=h.st.ext e (Lo.Zs _) (λ_ _ h=>h) (λ_ _ _=>rfl) (λi x y hi=>by simp[Lo.get] at hi) (λ_ _ h=>.inr h)
 own:=λb i o n=>by
  obtain⟨d,j,l,m⟩:=h.own b i o n
  have c:b<w.heap.size:=(Ĉ.1 d).1
  refine⟨by rw[e.block b c (λ_ _ h=>by simp[Lo.get] at h)]; exact d,j,λk=>?_,m⟩
  cases f:G' b k with
  | none=>exact f
  | some v=>
   rcases e.fresh b k v f with a|a|a
   .rw[l k] at a; cases a
   .omega
   exact (Lo.Kf a).elim
theorem YC.SH{o:Oper}{F:Fr}{g:Gx}{f:FuncId}{args c:Array Value}{d:Mem->Prop}{post:Mem->Value->Prop}(h:YC P N o F (jO w0 G0 g L) f c)(p:ä P f args d post)(e:c=args)(hp:d g.m):
  YR P N o F (jO w0 G0 g L) (λv w'=>∃ g':Gx,Gx.le g g'/\jO w0 G0 g' L w'/\post g'.m v):=λa w l i=>by
 rw[h a w l i]
 subst e
 exact (p w g.m (i.st.hp (Lo.Zs _)) hp).mono λe' w' ⟨r,G',L',m,j,n⟩=>⟨r,m,⟨G',g.x⟩,⟨j.le,λ_ _ h=>h⟩,i.ext j.nil,n⟩
theorem YC.y0X{o:Oper}{F:Fr}{g:Gx}{f:FuncId}{args a:Array Value}{d:Mem->Prop}{c:Value}(h:YC P N o F (jO w0 G0 g L) f a)(i:ä P f args d (λ_ r=>r=c))(e:a=args)(hp:d g.m):
  YR P N o F (jO w0 G0 g L) (λv w'=>∃ g':Gx,Gx.le g g'/\jO w0 G0 g' L w'/\v=c):=h.SH i e hp
theorem jR.y0{F:Fr}{G':Gx}{o:Oper}{c:Value}(f:κ ops F o true)(h:Y0 P N o F (St w0 G0 G'.m L) c):jR P N w0 G0 L ops F G' o (λv _=>v=c):=
 .inr ⟨f,λa w e d=>by rw[h a w e d.st]; exact⟨G',Gx.le_refl _,d,rfl⟩⟩
theorem jR.nf{F:Fr}{G':Gx}{o:Oper}{f:FuncId}{args a:Array Value}{d:Mem->Prop}{c:Value}(g:κ ops F o true)(h:YC P N o F (jO w0 G0 G' L) f a)(i:ä P f args d (λ_ r=>r=c))(e:a=args)(hp:d G'.m):
  jR P N w0 G0 L ops F G' o (λv _=>v=c):=.inr ⟨g,h.y0X i e hp⟩
theorem jR.call{F:Fr}{G':Gx}{o:Oper}{f:FuncId}{args a:Array Value}{c:Mem->Prop}{post:Mem->Value->Prop}(g:κ ops F o true)(h:YC P N o F (jO w0 G0 G' L) f a)(i:ä P f args c post)(e:a=args)(hp:c G'.m):
  jR P N w0 G0 L ops F G' o (λv d=>post d.m v):=.inr ⟨g,h.SH i e hp⟩
theorem jR.skip{F:Fr}{G':Gx}{o:Oper}(a:κ ops F o false):jR P N w0 G0 L ops F G' o (λv _=>v=undef):=.inl ⟨a,rfl⟩
def Laid(d:Nat)(a:Obj):Value->Gx->Prop:=λv g=>∃ b,v = .pointer (some ⟨b,0,none⟩)/\g.x b=some (d,a)
theorem Laid.mono{d:Nat}{a:Obj}(v:Value)(g g':Gx)(h:Gx.sB d g g'):Laid d a v g->Laid d a v g':=λ⟨b,c,e⟩=>⟨b,c,h.2 _ _ e⟩
theorem jR.laid{F:Fr}{G':Gx}{o:Oper}(d:Nat)(g:Obj)(D:κ ops F o true)(h:∀ a w,Rel N F a->(execOp a.eval o).run P w = .ok (.value (.pointer (some ⟨w.heap.size,0,none⟩))) (w.alloc g)):jR P N w0 G0 L ops F G' o (Laid d g):=
 .inr ⟨D,λa w C f=>by
  rw[h a w C]
  refine⟨⟨G'.m,λb=>if b=w.heap.size then some (d,g) else G'.x b⟩,⟨Mem.le_refl _,λb y c=>?_⟩,⟨?_,λb i o' c=>?_⟩,w.heap.size,rfl,by simp⟩
  .obtain⟨i,o'⟩:=y
   have q:b<w.heap.size:=(Ĉ.1 (f.own b i o' c).1).1
   simp only[Ā (show b≠w.heap.size by omega)]
   exact c
  .have r:∀ (L:Lo) (n:Nat),∃ K,n<=K/\L.get K=none:=by
    intro L
    induction L with
    | nil=>intro n; exact⟨n,č _,rfl⟩
    | cons p L H=>
     intro n
     obtain⟨K,l,m⟩:=H (max n (p.1+1))
     refine⟨K,by omega,?_⟩
     rw[Lo.Zn,Ā (by omega)]
     exact m
   obtain⟨K,_,B⟩:=r L 0
   refine (f.st.push K g).weaken λi x t=>?_
   rw[Lo.Zn,Ā (λe=>by subst e; rw[B] at t; cases t)]
   exact t
  have s:=f.st.size
  dsimp only at c
  split at c
  .rename_i e
   cases c
   subst e
   refine⟨by unfold World.alloc; rw[Array.getElem?_push,if_pos rfl],s,λk=>?_,λj y E=>?_⟩
   .cases G:G'.m w.heap.size k with
    | none=>rfl
    | some v=>
     have:=f.st.ls _ _ _ G
     simp[World.cell?] at this
   have:=(Ĉ.1 (f.st.loc j y E).1).1
   omega
  obtain⟨l,m,u,A⟩:=f.own b i o' c
  have q:b<w.heap.size:=(Ĉ.1 l).1
  refine⟨?_,m,u,A⟩
  simp only[World.alloc,Array.getElem?_push,Ā (show b≠w.heap.size by omega)]
  exact l⟩
theorem jO.ph{g:Gx}{w:World}{d b:Nat}{p:Obj}(h:jO w0 G0 g L w)(u:g.x b=some (d,p)):jO w0 G0 ⟨g.m,λk=>if k=b then none else g.x k⟩ ((d,some ⟨b,p,0⟩)::L) w:=by
 obtain⟨r,s,t,q⟩:=h.own b d p u
 have a:=h.st
 refine⟨⟨a.os,a.tape,a.output,a.drawn,a.size,a.block,a.base,a.ls,a.fresh,λj y f=>?_,λj k y z l n m=>?_⟩,λb' i o' c=>?_⟩
 .rw[Lo.Zn] at f
  split at f
  .cases f
   exact⟨r,.inr s,λk _=>t k⟩
  exact a.loc j y f
 .rw[Lo.Zn] at n m
  split at n
  .cases n
   split at m
   .omega
   exact λe=>q k z m e.symm
  split at m
  .cases m
   exact q j y n
  exact a.gY j k _ _ l n m
 dsimp only at c
 split at c
 .cases c
 rename_i l
 obtain⟨v,A,B,C⟩:=h.own b' i o' c
 refine⟨v,A,B,λj y f=>?_⟩
 rw[Lo.Zn] at f
 split at f
 .cases f; exact λe=>l e.symm
 exact C j y f
section
variable {fs:Ŀ Bool}{r:Ŀ Oper}{Χ:Fr}{Ω:mK}{o:Oper}{Bt:Υ}
theorem η.Kw{c:Value}(h:∀ u G',Gx.le (Gx.of G) G'->ô ops o Ω u G'->jR P N w0 G0 L ops (ψ Ω u++(Χ++fr)) G' o (λv _=>v=c))(k:η P N Q fr w0 G0 G L ops Bt fs r (ξ o.dst c Χ) Ω):
  η P N Q fr w0 G0 G L ops Bt (false::fs) (o::r) Χ Ω:=.inl ⟨c,h,k⟩
theorem η.q6(d:Nat)(φ:Value->Gx->Prop)(e:o.dst=some d)(f:∀ v a c,Gx.sB d a c->φ v a->φ v c)
  (h:∀ u G',Gx.le (Gx.of G) G'->ô ops o Ω u G'->jR P N w0 G0 L ops (ψ Ω u++(Χ++fr)) G' o φ) (k:η P N Q fr w0 G0 G L ops Bt fs r Χ ((d,φ)::Ω)) :
  η P N Q fr w0 G0 G L ops Bt (false::fs) (o::r) Χ Ω:=.inr (.inl ⟨d,φ,e,f,h,k⟩)
theorem η.B7(d k:Nat)(φ:Value->Gx->Prop)(e:o.dst=some d)(f:Ω.any (λp=>Nat.beq p.1 k)=true)(g:(o.looksAt ops).contains k=true)(j:oU ops k=true)(i:∀ v a c,Gx.sB d a c->φ v a->φ v c)
  (h:∀ u G',Gx.le (Gx.of G) G'->ô ops o Ω u G'->rB P N w0 G0 L ops (some k) (ψ Ω u++(Χ++fr)) G' o φ) (kk:η P N Q fr w0 G0 G L ops Bt fs r Χ ((d,φ)::mS (some k) Ω)) :
  η P N Q fr w0 G0 G L ops Bt (false::fs) (o::r) Χ Ω:=.inr (.inr ⟨d,φ,k,e,f,g,j,i,h,kk⟩)
theorem η.om(e:Mem.le G0 G)(k:WL P N ops (NX Q) r (Χ++fr) (St w0 G0 G L)):η P N Q fr w0 G0 G L ops (λ_=>True) [] r Χ []:=λ_ _ c _=>jc.of λa w d f=>k a w d (f.st.jt e c.1)
theorem η.C4{d:Nat}{e:Obj}(j:Mem.le G0 G)(k:∀ b,WL P N ops (NX Q) r ((d,.pointer (some ⟨b,0,none⟩))::(Χ++fr)) (St w0 G0 G ((d,some ⟨b,e,0⟩)::L))):η P N Q fr w0 G0 G L ops (λ_=>True) [] r Χ [(d,Laid d e)]  :=λu g c m=>jc.of λa w f l=>by
 obtain⟨b,h,i⟩:=m.1
 refine k b a w ?_ ((l.ph i).st.jt j c.1)
 have:ψ [(d,Laid d e)] u=[(d,.pointer (some ⟨b,0,none⟩))]:=by simp[ψ,h]
 rw[this] at f
 exact f
theorem η.y0{c:Value}(d:κ ops (Χ++fr) o true)(h:∀ G',Mem.le G G'->Y0 P N o (Χ++fr) (St w0 G0 G' L) c)(k:η P N Q fr w0 G0 G L ops Bt fs r (ξ o.dst c Χ) []):
  η P N Q fr w0 G0 G L ops Bt (false::fs) (o::r) Χ []:=.inl ⟨c,λ_ G' a _=>jR.y0 d (h G'.m a.1),k⟩
theorem η.float{c:Value}(e:κ ops (Χ++fr) o true)(h:Y0 P N o (Χ++fr) (λ_=>True) c)(k:η P N Q fr w0 G0 G L ops Bt fs r (ξ o.dst c Χ) []):
  η P N Q fr w0 G0 G L ops Bt (true::fs) (o::r) Χ []:=.inl ⟨c,λ_ _ _ _=>⟨e,λa w d _=>h a w d trivial⟩,k⟩
theorem η.nf{f:FuncId}{args a:Array Value}{d:Mem->Prop}{c:Value}(i:κ ops (Χ++fr) o true)(h:∀ S,YC P N o (Χ++fr) S f a)(j:ä P f args d (λ_ r=>r=c))(e:a=args)(hp:∀ G',Mem.le G G'->d G')
  (k:η P N Q fr w0 G0 G L ops Bt fs r (ξ o.dst c Χ) []):η P N Q fr w0 G0 G L ops Bt (false::fs) (o::r) Χ []:=.inl ⟨c,λ_ G' g _=>jR.nf i (h _) j e (hp G'.m g.1),k⟩
theorem η.skip(a:κ ops (Χ++fr) o false)(k:η P N Q fr w0 G0 G L ops Bt fs r (ξ o.dst undef Χ) []):η P N Q fr w0 G0 G L ops Bt (false::fs) (o::r) Χ []:=.inl ⟨undef,λ_ _ _ _=>jR.skip a,k⟩
theorem η.alloc{t:TypeId}{z:Value}{d:Nat}(c:∀ u,κ ops (ψ Ω u++(Χ++fr)) ⟨some d,.alloc t,ty,pos,af,g⟩ true)(e:(P.info? t).map (·.zero)=some (some z))
  (k:η P N Q fr w0 G0 G L ops Bt fs r Χ ((d,Laid d (.cells z.cells t (0,0)))::Ω)):η P N Q fr w0 G0 G L ops Bt (false::fs) (⟨some d,.alloc t,ty,pos,af,g⟩::r) Χ Ω:=
 η.q6 d _ rfl (λv _ _ h=>Laid.mono v _ _ h) (λu _ _ _=>jR.laid d _ (c u) (λa w _=>Y3 e a w)) k
end
end
section
variable {w0:Bs}{G0 G:Mem}{L:Lo}
theorem Hp.st{w:World}(h:Hp G L w):St ⟨w,L⟩ G G L w:=
 ⟨rfl,rfl,rfl,č _,č _,λ_ _ _=>rfl,Mem.le_refl _,h.ls,λ_ _ _ h=>.inl h,λi x a=>⟨(h.loc i x a).1,.inl ⟨x,a,rfl⟩,(h.loc i x a).2⟩,h.gY⟩
theorem St.mE{G':Mem}{L':Lo}{w w':World}(h:St ⟨w,L⟩ G G' L' w'):Ext w G L w' G' L':=
 ⟨h.os,h.tape,h.output,h.drawn,h.size,h.block,h.base,h.ls,h.fresh,h.loc,h.gY⟩
end
def nC:Ŀ Value->Nat->Fr
 | [],_=>[]
 | v::r,k=>(k,v)::nC r (k+1)
theorem Bl:∀ (l:Ŀ Value) (k t:Nat) (v:Value),Fr.get (nC l k) t=some v->k<=t/\l[t-k]? = some v
 | [],k,t,v,h=>by simp[nC,Fr.get] at h
 | x::r,k,t,v,h=>by
  simp only[nC] at h
  rw[Fr.Zn] at h
  split at h
  .rename_i e
   subst e
   simpa using h
  have:=Bl r (k+1) t v h
  refine⟨by omega,?_⟩
  rw[show t-k=(t-(k+1))+1 by omega]
  simpa using this.2
section
variable {P:Program}{fn:Func}{fr:Fr}{w0:Bs}{G0 G:Mem}{L:Lo}{N:Nat}
theorem ò.enter{f:FuncId}{c:Code}{args:Ŀ Value}{L0:Lo}{a:Mem->Prop}{post:Mem->Lo->Value->Prop}(m:P.funcs[f]? = some fn)(l:fn.body=some c)(p:fn.ntmps=N)(j:Nat.ble args.length N=true)
  (h:∀ w0 G0,w0.L=L0->a G0->WC P N c (bodyPost P fn (me w0 G0 post)) (nC args 0) (St w0 G0 G0 L0)):ò P f args.toArray L0 a post:=by
 intro w G hi hp
 refine calls_of_wp m l (h ⟨w,L0⟩ G rfl hp _ w ⟨rfl,?_,λt v n=>?_⟩ ⟨rfl,rfl,rfl,č _,č _,λ_ _ _=>rfl,Mem.le_refl _,hi.ls,λ_ _ _ h=>.inl h,λi x e=>⟨(hi.loc i x e).1,.inl ⟨x,e,rfl⟩,(hi.loc i x e).2⟩,hi.gY⟩)
 .have:=aaL j
  simp only[aaC,ĥ,Array.size_replicate]
  omega
 obtain⟨_,d⟩:=Bl args 0 t v n
 simp only[fP] at d
 have g:=(Ć.1 d).1
 rw[ı (by simpa using g)]
 simpa using d
theorem ä.enter{f:FuncId}{c:Code}{args:Ŀ Value}{a:Mem->Prop}{post:Mem->Value->Prop}(i:P.funcs[f]? = some fn)(g:fn.body=some c)(d:fn.ntmps=N)(e:Nat.ble args.length N=true)
  (h:∀ w0 G0,w0.L=[]->a G0->WC P N c (bodyPost P fn (AM w0 G0 post)) (nC args 0) (St w0 G0 G0 [])):ä P f args.toArray a post:=ò.enter i g d e h
def RV(P:Program)(fr:Fr)(L:Lo):ResultVar->Value->Prop
 | .tmp t,v=>fr.get t=some v
 | .cell t ty,v=>∃ i b c t' m,fr.get t=some (.pointer (some ⟨b,0,none⟩))/\L.get i=some ⟨b,.cells c t' (0,0),m⟩/\((∃ n,jd P ty n/\c.size=n/\v = .agg c)\/(ê P ty/\c[0]? = some v))
theorem RV.tE{t ty t' i b n m:Nat}{c:Array Value}(f:jd P ty n)(a:fr.get t=some (.pointer (some ⟨b,0,none⟩)))(d:L.get i=some ⟨b,.cells c t' (0,0),m⟩)(e:c.size=n):RV P fr L (.cell t ty) (.agg c):=
 ⟨i,b,c,t',m,a,d,.inl ⟨n,f,e,rfl⟩⟩
def oj(tmps:Array Value):ResultVar->Sem Value
 | .tmp t=>pure (tmps.getD t undef)
 | .cell a t=>do loadVar t (<- asAddr (tmps.getD a undef))
theorem RV.run{rv:ResultVar}{v:Value}{a:Act}{w:World}(h:RV P fr L rv v)(g:Rel N fr a)(y:St w0 G0 G L w):(oj a.tmps rv).run P w = .ok v w:=by
 cases rv with
 | tmp t=>simp[oj,g.here t v h]
 | cell t ty=>
  obtain⟨i,b,c,t',m,q,r,s⟩:=h
  have l:=(y.loc i _ r).1
  have f:a.tmps.getD t undef = .pointer (some ⟨b,0,none⟩):=by simp[g.here t _ q]
  rcases s with ⟨n,d,e,rfl⟩|⟨d,e⟩
  .have:=DF (P:=P) (w:=w) (b:=b) (off:=0) (vs:=c.toList) d (by simpa using e) (λj v u=>by
    rw[ŧ w b (0+j) c t' (0,0) l]
    simpa using u)
   simp only[oj,f,asAddr]
   simpa using this
  have p:=ŧ w b 0 c t' (0,0) l
  rw[e] at p
  have:=AT (P:=P) d p
  simp only[oj,f,asAddr]
  simpa using this
theorem YN(fn:Func)(tmps:Array Value):results fn tmps=(do let vs <- fn.results.mapM (oj tmps); pure (if h:vs.size=1 then vs[0] else .tuple vs)):=by
 unfold results
 congr 2
theorem HZ{rvs:Ŀ ResultVar}{vs:Ŀ Value}{a:Act}{w:World}(m:fn.results=rvs.toArray)(c:rvs.length=vs.length)(h:∀ (i:Nat) (rv:ResultVar) (v:Value),rvs[i]? = some rv->vs[i]? = some v->(oj a.tmps rv).run P w = .ok v w):
  (results fn a.tmps).run P w = .ok (if h:vs.toArray.size=1 then vs.toArray[0] else .tuple vs.toArray) w:=by
 have key:∀ (rvs:Ŀ ResultVar) (vs:Ŀ Value),rvs.length=vs.length->(∀ (i:Nat) (rv:ResultVar) (v:Value),rvs[i]? = some rv->vs[i]? = some v->(oj a.tmps rv).run P w = .ok v w)->(rvs.mapM (oj a.tmps)).run P w = .ok vs w:=by
  intro rvs
  induction rvs with
  | nil=>intro vs c _; cases vs with|nil=>simp|cons=>simp at c
  | cons rv rvs n=>
   intro vs c h
   cases vs with
   | nil=>simp at c
   | cons v vs=>
    have g:=h 0 rv v rfl rfl
    have j:=n vs (by simpa using c) (λi d p e f=>h (i+1) d p (by simpa using e) (by simpa using f))
    simp[List.mapM_cons,g,j]
 rw[YN,m]
 have l:=key rvs vs c h
 rw[List.mapM_toArray]
 simp[l]
theorem WE.ret{rvs:Ŀ ResultVar}{post:Mem->Lo->Value->Prop}(vs:Ŀ Value)(j:fn.results=rvs.toArray)(g:rvs.length=vs.length)(h:∀ (i:Nat) (rv:ResultVar) (v:Value),rvs[i]? = some rv->vs[i]? = some v->RV P fr L rv v)
  (hp:post G L (if h:vs.toArray.size=1 then vs.toArray[0] else .tuple vs.toArray)):WE N (bodyPost P fn (me w0 G0 post)) .ret fr (St w0 G0 G L):=λa w d c=>
 ⟨d.defers,_,HZ j g (λi rv v e f=>(h i rv v e f).run d c),_,G,L,rfl,⟨c.os,c.tape,c.output,c.drawn,c.size,c.block,c.base,c.ls,c.fresh,c.loc,c.gY⟩,hp⟩
theorem WE.n0{post:Mem->Lo->Value->Prop}(h:WE N (bodyPost P fn (me w0 G0 post)) .ret fr (St w0 G0 G L)):WE N (bodyPost P fn (me w0 G0 post)) .normal fr (St w0 G0 G L):=h
theorem WE.mw{c:ResultVar}{d:Value}{post:Mem->Lo->Value->Prop}(g:fn.results = #[c])(f:RV P fr L c d)(hp:post G L d):WE N (bodyPost P fn (me w0 G0 post)) .ret fr (St w0 G0 G L):=
 WE.ret (rvs:=[c]) [d] g rfl (λi rv v a e=>by
  match i with
  | 0=>simp at a e; subst a e; exact f
  | i+1=>simp at a) hp
theorem WE.Lp{d e:ResultVar}{f g:Value}{post:Mem->Lo->Value->Prop}(l:fn.results = #[d,e])(h:RV P fr L d f)(j:RV P fr L e g)(hp:post G L (.tuple #[f,g])):WE N (bodyPost P fn (me w0 G0 post)) .ret fr (St w0 G0 G L):=
 WE.ret (rvs:=[d,e]) [f,g] l rfl (λi rv v a c=>by
  match i with
  | 0=>simp at a c; subst a c; exact h
  | 1=>simp at a c; subst a c; exact j
  | i+2=>simp at a) hp
theorem WE.Lq{d e f:ResultVar}{g h j:Value}{post:Mem->Lo->Value->Prop}(p:fn.results = #[d,e,f])(l:RV P fr L d g)(m:RV P fr L e h)(n:RV P fr L f j)(hp:post G L (.tuple #[g,h,j])):
  WE N (bodyPost P fn (me w0 G0 post)) .ret fr (St w0 G0 G L):=
 WE.ret (rvs:=[d,e,f]) [g,h,j] p rfl (λi rv v a c=>by
  match i with
  | 0=>simp at a c; subst a c; exact l
  | 1=>simp at a c; subst a c; exact m
  | 2=>simp at a c; subst a c; exact n
  | i+3=>simp at a) hp
theorem WE.nI{post:Mem->Lo->Value->Prop}(c:fn.results = #[])(hp:post G L (.tuple #[])):WE N (bodyPost P fn (me w0 G0 post)) .ret fr (St w0 G0 G L):=
 WE.ret (rvs:=[]) [] c rfl (λi rv v a d=>by simp at a) hp
end
section
variable {P:Program}{N:Nat}{Q:õ}{fr:Fr}{S:Υ}{ops:Array Oper}{l:Ŀ Oper}{dst:ŀ Nat}{ty:TypeId}{pos:String}{af:Array Edge}{g:ŀ (Nat×Bool)}
variable {w0:Bs}{G0 G:Mem}{L:Lo}
theorem WL.pO{op:Op}{p:Prop}[Decidable p](c:κ ops fr ⟨dst,op,ty,pos,af,g⟩ true)(h:Y0 P N ⟨dst,op,ty,pos,af,g⟩ fr S (.bool (decide p)))(a:è N dst)
  (kt:p->WL P N ops Q l (ξ dst (.bool true) fr) S) (d:¬ p->WL P N ops Q l (ξ dst (.bool false) fr) S):WL P N ops Q (⟨dst,op,ty,pos,af,g⟩::l) fr S:=by
 by_cases hp:p
 .exact WL.mZ c (h.eq (ć Value.bool (ē hp))) a (kt hp)
 exact WL.mZ c (h.eq (ć Value.bool (ċ hp))) a (d hp)
theorem η.pO{Bt:Υ}{fs:Ŀ Bool}{r:Ŀ Oper}{Χ:Fr}{o:Oper}{p:Prop}[Decidable p](c:κ ops (Χ++fr) o true)(h:∀ G',Mem.le G G'->Y0 P N o (Χ++fr) (St w0 G0 G' L) (.bool (decide p)))
  (kt:p->η P N Q fr w0 G0 G L ops Bt fs r (ξ o.dst (.bool true) Χ) []) (d:¬ p->η P N Q fr w0 G0 G L ops Bt fs r (ξ o.dst (.bool false) Χ) []):η P N Q fr w0 G0 G L ops Bt (false::fs) (o::r) Χ []:=by
 by_cases hp:p
 .exact η.y0 c (λG' a=>(h G' a).eq (ć Value.bool (ē hp))) (kt hp)
 exact η.y0 c (λG' a=>(h G' a).eq (ć Value.bool (ċ hp))) (d hp)
theorem Y0.Lh{t:TypeId}{x:Operand}{p:Prop}[Decidable p](a:fr.ev x=some (.bool (decide p))):Y0 P N ⟨dst,.unOp .not t x,ty,pos,af,g⟩ fr S (.bool (decide (¬ p))):=
 (Y0.not a).eq (by by_cases h:p <;> simp[h])
theorem Y0.lR{t e:TypeId}{x y:Operand}{len cap b off sz i:Nat}{k:IntKind}(c:P.underlying t=some (.slice e))(a:(P.info? e).map (·.size)=some sz)
  (d:fr.ev x=some (.slice (some ⟨b,off,none⟩) len cap)) (f:fr.ev y=some (.int k (i:Int))) (hi:i<len):Y0 P N ⟨dst,.indexAddr t x y,ty,pos,af,g⟩ fr S (.pointer (some ⟨b,off+i*sz,none⟩)):=
 (Y0.tU c a d f (by omega)).eq (by simp)
def vT{X:Type}(N:Nat)(F:X->Fr)(H:X->Prop)(I:X->Υ)(m:X->Nat)(x:X):Act->World->Prop:=λa w=>∃ x',H x'/\Rel N (F x') a/\I x' w/\m x'<m x
theorem WC.kV{c:Code}{X:Type}(F:X->Fr)(H:X->Prop)(I:X->Υ)(m:X->Nat)(d:X)(g:Fr.sub (F d) fr)(h:H d)(i:∀ w,S w->I d w)
  (round:∀ x,H x->WC P N c (Exit.then (vT N F H I m x) Q) (F x) (I x)):WC P N (.loop c) Q fr S:=
 WC.loop (λx:{ x:X // H x }=>F x.1) (λx=>I x.1) (λx=>m x.1) ⟨d,h⟩ g i λx a w j l=>aaA (λe a' w' f=>by
  cases e <;> first|exact f|(obtain⟨x',n,p,q,r⟩:=f; exact⟨⟨x',n⟩,p,q,r⟩)) (round x.1 x.2 a w j l)
theorem WE.kC{X:Type}{F:X->Fr}{H:X->Prop}{I:X->Υ}{m:X->Nat}{x:X}(x':X)(c:H x')(a:Fr.sub (F x') fr)(d:∀ w,S w->I x' w)(f:m x'<m x):
  WE N (Exit.then (vT N F H I m x) Q) .normal fr S:=λ_ w e g=>⟨x',c,e.weaken a,d w g,f⟩
end
structure Cq (α:Type) where
 wp:(α->Prop)->Prop
 mono:∀ {p q:α->Prop},(∀ a,p a->q a)->wp p->wp q
 ev:Nat->ŀ α
 sound:∀ n a,ev n=some a->∀ p:α->Prop,p a->wp p
def Cq.ο{α:Type}(c:Cq α)(r:α):Prop:=c.wp λa=>a=r
def Out{σ ρ:Type}(A:σ->Prop)(Φ:ρ->Prop):σ⊕ρ->Prop
 | .inl s=>A s
 | .inr r=>Φ r
theorem Out.mono{σ ρ:Type}{A A':σ->Prop}{Φ a:ρ->Prop}(h:∀ s,A s->A' s)(k:∀ r,Φ r->a r):∀ o,Out A Φ o->Out A' a o
 | .inl s,x=>h s x
 | .inr r,x=>k r x
namespace Cq
variable {α β σ ρ:Type}
def ret(a:α):Cq α:=⟨λp=>p a,λh=>h a,λ_=>some a,λn b h p hp=>by cases h; exact hp⟩
def fail:Cq α:=⟨λ_=>False,λ_ h=>h,λ_=>none,λ_ _ h=>by cases h⟩
def bind(c:Cq α)(k:α->Cq β):Cq β:=
 ⟨λp=>∃ a,c.ο a/\(k a).wp p,λh ⟨a,e,f⟩=>⟨a,e,(k a).mono h f⟩,λn=>(c.ev n).bind λa=>(k a).ev n,λn b h p hp=>by
  cases d:c.ev n with
  | none=>rw[d] at h; cases h
  | some a=>rw[d] at h; exact⟨a,c.sound n a d _ rfl,(k a).sound n b h p hp⟩⟩
def next(c:Cq α)(k:α->Cq β):Cq β:=
 ⟨λp=>c.wp λa=>(k a).wp p,λh=>c.mono λa=>(k a).mono h,λn=>(c.ev n).bind λa=>(k a).ev n,λn b h p hp=>by
  cases d:c.ev n with
  | none=>rw[d] at h; cases h
  | some a=>rw[d] at h; exact c.sound n a d _ ((k a).sound n b h p hp)⟩
def ì(p:Prop)[Decidable p](c:Cq α):Cq α:=⟨λq=>p/\c.wp q,λh ⟨d,e⟩=>⟨d,c.mono h e⟩,λn=>if p then c.ev n else none,λn a h q f=>by
 by_cases hp:p
 .rw[Ă hp] at h; exact⟨hp,c.sound n a h q f⟩
 rw[Ā hp] at h; cases h⟩
def Ζ(l:Ŀ α)(i:Int)(k:α->Cq β):Cq β:=⟨λp=>∃ a,(0<=i/\l[i.toNat]? = some a)/\(k a).wp p,λh ⟨a,d,e⟩=>⟨a,d,(k a).mono h e⟩,
 λn=>if 0<=i then (l[i.toNat]?).bind λa=>(k a).ev n else none,λn b h p hp=>by
 by_cases hi:0<=i
 .rw[Ă hi] at h
  cases c:l[i.toNat]? with
  | none=>rw[c] at h; cases h
  | some a=>rw[c] at h; exact⟨a,⟨hi,rfl⟩,(k a).sound n b h p hp⟩
 rw[Ā hi] at h; cases h⟩
def any(q:α->Prop)(k:α->Cq β):Cq β:=⟨λp=>∀ a,q a->(k a).wp p,λh c a d=>(k a).mono h (c a d),λ_=>none,λ_ _ h=>by cases h⟩
def pX(step:σ->Cq (σ⊕ρ))(n:Nat):Nat->σ->ŀ ρ
 | 0,_=>none
 | k+1,s=>match (step s).ev n with
  | none=>none
  | some (.inr r)=>some r
  | some (.inl a)=>pX step n k a
theorem Ny(step:σ->Cq (σ⊕ρ))(n:Nat)(p:ρ->Prop):∀ k s r,pX step n k s=some r->p r->∀ A:σ->Prop,(∀ s,(step s).wp (Out A p)->A s)->A s
 | 0,_,_,h=>by cases h
 | k+1,s,r,h=>by
  intro hp A a
  simp only[pX] at h
  split at h
  .cases h
  .rename_i r' c
   simp only[Ď] at h
   subst h
   exact a s ((step s).sound n _ c _ hp)
  rename_i e d
  exact a s ((step s).sound n _ d _ (Ny step n p k e r h hp A a))
def loop(step:σ->Cq (σ⊕ρ))(s:σ):Cq ρ:=⟨λp=>∀ A:σ->Prop,(∀ s,(step s).wp (Out A p)->A s)->A s,λh c A d=>c A λs e=>d s ((step s).mono (Out.mono (λ_ x=>x) h) e),
 λn=>pX step n n s,λn a h p hp=>Ny step n p n s a h hp⟩
theorem sK{step:σ->Cq (σ⊕ρ)}{s:σ}{p:ρ->Prop}(h:(step s).wp (Out (λc=>(loop step c).wp p) p)):(loop step s).wp p:=
 λA a=>a s ((step s).mono (Out.mono (λc h'=>h' A a) (λ_ x=>x)) h)
theorem EI{step:σ->Cq (σ⊕ρ)}{p:ρ->Prop}(I:σ->Prop)(m:σ->Nat)(h:∀ s,I s->(step s).wp (Out (λa=>I a/\m a<m s) p)):∀ s,I s->(loop step s).wp p:=by
 have key:∀ n s,m s=n->I s->(loop step s).wp p:=by
  intro n
  induction n using Nat.strongRecOn with
  | _ n e=>
   intro s g d
   exact sK ((step s).mono (Out.mono (λa ⟨c,f⟩=>e (m a) (by omega) a rfl c) (λ_ x=>x)) (h s d))
 exact λs=>key _ s rfl
theorem ο.rE{c:Cq α}{a:α}(n:Nat)(h:c.ev n=some a):c.ο a:=c.sound n a h _ rfl
theorem wp.pos{p:Prop}[Decidable p]{A B:Cq α}{q:α->Prop}(h:(if p then A else B).wp q)(hp:p):A.wp q:=by rwa [Ă hp] at h
theorem wp.neg{p:Prop}[Decidable p]{A B:Cq α}{q:α->Prop}(h:(if p then A else B).wp q)(hp:¬ p):B.wp q:=by rwa [Ā hp] at h
theorem wp.yes{p:Prop}[Decidable p]{A B:Cq α}{q:α->Prop}(hp:p)(h:A.wp q):(if p then A else B).wp q:=by rwa [Ă hp]
theorem wp.no{p:Prop}[Decidable p]{A B:Cq α}{q:α->Prop}(hp:¬ p)(h:B.wp q):(if p then A else B).wp q:=by rwa [Ā hp]
end Cq
section
variable {P:Program}{N:Nat}{Q:õ}{fr:Fr}{S:Υ}
def jf(P:Program)(c:Code)(Q:õ)(a:Act)(w:World):Prop:=
 ∀ (b:Frame) (k:Ŀ Item) (cs:Ŀ Frame),∃ e a' w',Q e a' w'/\Arrives P (lone (b.at a (.code c::.inLoop c::k)) cs w) b k cs e a' w'
theorem jf.fold{c:Code}{a:Act}{w:World}(h:c.wp P (Exit.then (jf P c Q) Q) a w):jf P c Q a w:=by
 intro b k cs
 obtain⟨e,f,g,m,d⟩:=h b (.inLoop c::k) cs
 cases e with
 | normal=>
  obtain⟨p,n,q,j,i⟩:=m b k cs
  exact⟨p,n,q,j,.of_steps (Steps.trans d (.one step_inLoop)) i⟩
 | exit id=>exact⟨_,f,g,m,.pass (x:=.inLoop c) rfl (λ_ _=>.inl (by simp)) d⟩
 | goto l=>exact⟨_,f,g,m,.pass (x:=.inLoop c) rfl (λ_ _=>.inl (by simp)) d⟩
 | ret=>exact⟨_,f,g,m,.pass (x:=.inLoop c) rfl (λ_ _=>.inl (by simp)) d⟩
 | panic r=>exact⟨_,f,g,m,.pass (x:=.inLoop c) rfl (λ_ _=>.inl (by simp)) d⟩
 | outgrown=>exact⟨_,f,g,m,.pass (x:=.inLoop c) rfl (λ_ _=>.inl (by simp)) d⟩
theorem jf.wp{c:Code}{a:Act}{w:World}(h:jf P c Q a w):(Code.loop c).wp P Q a w:=by
 intro b k cs
 obtain⟨e,a',w',f,d⟩:=h b k cs
 exact⟨e,a',w',f,.of_steps (.one step_loop) d⟩
def sS{X σ:Type}(N:Nat)(F:X->Fr)(H:X->Prop)(I:X->Υ)(π:X->σ)(A:σ->Prop):Act->World->Prop:=λa w=>∃ x',H x'/\A (π x')/\Rel N (F x') a/\I x' w
theorem WC.CG{c:Code}{X σ ρ:Type}{step:σ->Cq (σ⊕ρ)}{Φ:ρ->Prop}(π:X->σ)(F:X->Fr)(H:X->Prop)(I:X->Υ)(d:X)(r:(Cq.loop step (π d)).wp Φ)(q:Fr.sub (F d) fr)(f:H d)(g:∀ w,S w->I d w)
  (round:∀ (A:σ->Prop) x,H x->(step (π x)).wp (Out A Φ)->WC P N c (Exit.then (sS N F H I π A) Q) (F x) (I x)):WC P N (.loop c) Q fr S:=by
 have key:=r (λs=>∀ x,π x=s->H x->∀ a w,Rel N (F x) a->I x w->jf P c Q a w) (λs i x t f a w h g=>by
  subst t
  refine jf.fold (aaA (λe a' w' j=>?_) (round _ x f i a w h g))
  cases e <;> first|exact j|skip
  obtain⟨x',l,m,n,p⟩:=j
  exact m x' rfl l a' w' n p)
 exact λa w h i=>(key d rfl f a w (h.weaken q) (g w i)).wp
theorem WE.B3{X σ:Type}{F:X->Fr}{H:X->Prop}{I:X->Υ}{π:X->σ}{A:σ->Prop}(x':X)(a:A (π x'))(d:H x')(c:Fr.sub (F x') fr)(e:∀ w,S w->I x' w):WE N (Exit.then (sS N F H I π A) Q) .normal fr S:=
 λ_ w f g=>⟨x',d,a,f.weaken c,e w g⟩
def xx{X:Type}(N:Nat)(F:X->Fr)(H:X->Prop)(I:X->Υ):Act->World->Prop:=λa w=>∃ x,H x/\Rel N (F x) a/\I x w
theorem WC.sE{X:Type}{x y:Code}(F:X->Fr)(H:X->Prop)(I:X->Υ)(d:WC P N x (Exit.then (xx N F H I) Q) fr S)(f:∀ x,H x->WC P N y Q (F x) (I x)):WC P N (.seq x y) Q fr S:=
 λa w g h=>wp_seq (aaA (λe a' w' c=>by
  cases e <;> first|exact c|(obtain⟨x',i,j,l⟩:=c; exact f x' i a' w' j l)) (d a w g h))
theorem WE.pZ{X:Type}{F:X->Fr}{H:X->Prop}{I:X->Υ}(x:X)(c:H x)(a:Fr.sub (F x) fr)(d:∀ w,S w->I x w):WE N (Exit.then (xx N F H I) Q) .normal fr S:=λ_ w e f=>⟨x,c,e.weaken a,d w f⟩
def u4{X:Type}(N:Nat)(F:X->Fr)(H:X->Prop)(I:X->Υ)(Q:õ):õ:=λe a w=>match e with
 | .normal=>∃ x,H x/\Rel N (F x) a/\I x w
 | e=>Q e a w
theorem WC.CJ{X:Type}{x:Code}(F:X->Fr)(H:X->Prop)(I:X->Υ)(d:WC P N x (u4 N F H I Q) fr S)(f:∀ x,H x->WE N Q .normal (F x) (I x)):WC P N x Q fr S:=
 λa w g h=>aaA (λe a' w' c=>by
  cases e <;> first|exact c|(obtain⟨x',i,j,l⟩:=c; exact f x' i a' w' j l)) (d a w g h)
theorem WE.KR{X:Type}{F:X->Fr}{H:X->Prop}{I:X->Υ}(x:X)(c:H x)(a:Fr.sub (F x) fr)(d:∀ w,S w->I x w):WE N (u4 N F H I Q) .normal fr S:=λ_ w e f=>⟨x,c,e.weaken a,d w f⟩
theorem WE.yA{X:Type}{F:X->Fr}{H:X->Prop}{I:X->Υ}(h:WE N Q .ret fr S):WE N (u4 N F H I Q) .ret fr S:=h
end
structure Rp (α:Type) where
 size:Nat
 jJ:Mem->Ŀ Value->α->Prop
 len:∀ {G cs x},jJ G cs x->cs.length=size
 mono:∀ {G G' cs x},Mem.le G G'->jJ G cs x->jJ G' cs x
 one:∀ {G cs x},jJ G cs x->∀ u ∈ cs,u.oneCell'=true
def Rp.int(k:IntKind):Rp Int:=⟨1,λ_ cs x=>cs=[.int k x],λh=>by rw[h]; rfl,λ_ h=>h,λh u a=>by rw[h] at a; simp at a; subst a; rfl⟩
def Rp.bool:Rp Bool:=⟨1,λ_ cs x=>cs=[.bool x],λh=>by rw[h]; rfl,λ_ h=>h,λh u a=>by rw[h] at a; simp at a; subst a; rfl⟩
def Rp.str:Rp Ĳ:=⟨1,λ_ cs x=>cs=[.string x],λh=>by rw[h]; rfl,λ_ h=>h,λh u a=>by rw[h] at a; simp at a; subst a; rfl⟩
def í{α:Type}(mk:α->Value)(n:Nat)(f:Fin n->α):Ŀ Value:=List.ofFn λi=>mk (f i)
abbrev ow(k:IntKind)(n:Nat)(f:Fin n->Int):Ŀ Value:=í (Value.int k) n f
section
variable {α:Type}(mk:α->Value) (n:Nat) (f:Fin n->α)
theorem uG:(í mk n f).length=n:=by simp[í]
theorem th{i:Nat}(h:i<n):(í mk n f)[i]? = some (mk (f ⟨i,h⟩)):=by simp[í,h]
theorem zv(c:∀ x,(mk x).oneCell'=true):∀ u ∈ í mk n f,u.oneCell'=true:=by
 intro u a
 simp only[í,List.mem_ofFn] at a
 obtain⟨i,rfl⟩:=a
 exact c _
end
def å{α:Type}{n:Nat}(f:Fin n->α)(i:Nat)(x:α):Fin n->α:=λj=>if j.val=i then x else f j
def Κ{α:Type}[Inhabited α]{n:Nat}(f:Fin n->α)(i:Int):α:=if h:i.toNat<n then f ⟨i.toNat,h⟩ else default
theorem BM{α:Type}[Inhabited α]{n:Nat}(f:Fin n->α){i:Int}(h:i.toNat<n):Κ f i=f ⟨i.toNat,h⟩:=by simp[Κ,h]
theorem Zua{α:Type}(mk:α->Value)(n:Nat)(f:Fin n->α)(i:Nat)(x:α):(í mk n f).set i (mk x)=í mk n (å f i x):=by
 apply List.ext_getElem
 .simp[í]
 intro j a c
 simp only[í,aam,List.getElem_ofFn,å]
 by_cases e:i=j
 .subst e; simp
 rw[Ā e,Ā (λe'=>e e'.symm)]
theorem BQ{α:Type}[Inhabited α](mk:α->Value)(n:Nat)(f:Fin n->α){i:Int}(h:0<=i/\i<(n:Int)):(í mk n f).toArray[i.toNat]? = some (mk (Κ f i)):=by
 have hi:i.toNat<n:=by omega
 rw[BM f hi,ę,th mk n f hi]
theorem zw{α:Type}(mk:α->Value)(n:Nat)(f:Fin n->α)(i:Nat)(x:α):(í mk n f).toArray.setIfInBounds i (mk x)=(í mk n (å f i x)).toArray:=by
 rw[aaj,Zua]
def Rp.í{α:Type}(mk:α->Value)(a:∀ x,(mk x).oneCell'=true)(n:Nat):Rp (Fin n->α):=⟨n,λ_ cs f=>cs=EL.í mk n f,λh=>by rw[h]; exact uG _ _ _,λ_ h=>h,λh=>by rw[h]; exact zv _ _ _ a⟩
abbrev Rp.vec(k:IntKind)(n:Nat):Rp (Fin n->Int):=Rp.í (Value.int k) (λ_=>rfl) n
abbrev Rp.LH(n:Nat):Rp (Fin n->Bool):=Rp.í Value.bool (λ_=>rfl) n
def Rp.pair{α β:Type}(a:Rp α)(b:Rp β):Rp (α×β) where
 size:=a.size+b.size
 jJ G cs x:=∃ c d,cs=c++d/\a.jJ G c x.1/\b.jJ G d x.2
 len:=by rintro G cs x ⟨c,d,rfl,e,f⟩; rw[ā,a.len e,b.len f]
 mono:=by rintro G G' cs x g ⟨c,d,rfl,e,f⟩; exact⟨c,d,rfl,a.mono g e,b.mono g f⟩
 one:=by
  rintro G cs x ⟨c,d,rfl,e,f⟩ u h
  rcases ĉ.1 h with h|h
  .exact a.one e u h
  exact b.one f u h
def Rp.via{α β:Type}(a:Rp α)(f:β->α):Rp β:=⟨a.size,λG cs x=>a.jJ G cs (f x),a.len,a.mono,a.one⟩
def Ã{α:Type}(r:Rp α)(G:Mem):Ŀ Value->Ŀ α->Prop
 | cs,[]=>cs=[]
 | cs,x::l=>∃ c d,cs=c++d/\r.jJ G c x/\Ã r G d l
namespace Ã
variable {α:Type}{r:Rp α}{G G':Mem}
theorem len:∀ {l:Ŀ α}{cs:Ŀ Value},Ã r G cs l->cs.length=l.length*r.size
 | [],cs,h=>by simp only[Ã] at h; simp[h]
 | x::l,cs,⟨c,d,e,a,f⟩=>by
  have:=len f
  subst e
  simp only[ā,r.len a,this,Ġ,ŋ]
  omega
theorem mono(a:Mem.le G G'):∀ {l:Ŀ α}{cs:Ŀ Value},Ã r G cs l->Ã r G' cs l
 | [],_,h=>h
 | _::_,_,⟨c,d,e,f,g⟩=>⟨c,d,e,r.mono a f,mono a g⟩
theorem one:∀ {l:Ŀ α}{cs:Ŀ Value},Ã r G cs l->∀ u ∈ cs,u.oneCell'=true
 | [],cs,h=>by simp only[Ã] at h; simp[h]
 | _::_,_,⟨c,d,e,f,g⟩=>by
  subst e
  intro u a
  rcases ĉ.1 a with a|a
  .exact r.one f u a
  exact one g u a
theorem single{x:α}{c:Ŀ Value}(h:r.jJ G c x):Ã r G c [x]:=⟨c,[],by simp,h,rfl⟩
theorem append:∀ {l m:Ŀ α}{cs a:Ŀ Value},Ã r G cs l->Ã r G a m->Ã r G (cs++a) (l++m)
 | [],m,cs,a,h,k=>by simp only[Ã] at h; subst h; exact k
 | _::_,m,_,a,⟨c,d,e,f,g⟩,k=>by subst e; exact⟨c,d++a,by simp,f,append g k⟩
theorem get:∀ {l:Ŀ α}{cs:Ŀ Value},Ã r G cs l->∀ {i:Nat}{x:α},l[i]? = some x->∃ c,r.jJ G c x/\∀ j u,c[j]? = some u->cs[i*r.size+j]? = some u
 | [],_,_,i,x,a=>by simp at a
 | y::l,_,⟨c,d,e,f,h⟩,0,x,a=>by
  simp only[į,Ď] at a
  subst a e
  refine⟨c,f,λj u g=>?_⟩
  rw[fT,ļ,ĕ (Ć.1 g).1]
  exact g
 | y::l,_,⟨c,d,e,f,h⟩,i+1,x,a=>by
  simp only[ĭ] at a
  subst e
  obtain⟨c',m,n⟩:=get h a
  refine⟨c',m,λj u g=>?_⟩
  rw[Ī (by rw[r.len f,ŋ]; omega)]
  rw[show (i+1)*r.size+j-c.length=i*r.size+j by rw[r.len f,ŋ]; omega]
  exact n j u g
theorem split:∀ {l m:Ŀ α}{cs:Ŀ Value},Ã r G cs (l++m)->∃ c d,cs=c++d/\Ã r G c l/\Ã r G d m
 | [],m,cs,h=>⟨[],cs,rfl,rfl,h⟩
 | x::l,m,_,⟨c,d,e,a,f⟩=>by
  obtain⟨c',d',e',g,i⟩:=split f
  exact⟨c++c',d',by rw[e,e',ď],⟨c,c',rfl,a,g⟩,i⟩
end Ã
def pb:ŀ Addr->Nat
 | some a=>a.block
 | none=>0
def po:ŀ Addr->Nat
 | some a=>a.off
 | none=>0
def ë{α:Type}(r:Rp α)(G:Mem)(v:Value)(l:Ŀ α):Prop:=
 ∃ p cap cs,v = .slice p l.length cap/\(l.length<=cap/\cap<=9223372036854775807)/\(∀ a,p=some a->0<cap->a.spot=none)/\(0<l.length->p.isSome=true)/\Ã r G cs l/\∀ j u,cs[j]? = some u->G (pb p) (po p+j)=some u
theorem ë.mono{α:Type}{r:Rp α}{G G':Mem}{v:Value}{l:Ŀ α}(h:ë r G v l)(a:Mem.le G G'):ë r G' v l:=by
 obtain⟨p,cap,cs,c,g,d,e,f,i⟩:=h
 exact⟨p,cap,cs,c,g,d,e,f.mono a,λj u m=>a _ _ _ (i j u m)⟩
theorem ë.nil{α:Type}(r:Rp α)(G:Mem):ë r G (.slice none 0 0) []:=⟨none,0,[],rfl,by simp,λ_ h=>(by cases h),λh=>(by simp at h),rfl,λj u h=>(by simp at h)⟩
theorem ë.one{α:Type}{r:Rp α}{G:Mem}{v:Value}{l:Ŀ α}(h:ë r G v l):v.oneCell'=true:=by
 obtain⟨p,cap,cs,a,_⟩:=h
 rw[a]; rfl
def Rp.sl{α:Type}(r:Rp α):Rp (Ŀ α):=⟨1,λG cs l=>∃ v,cs=[v]/\ë r G v l,λ⟨v,h,_⟩=>by rw[h]; rfl,λa ⟨v,h,k⟩=>⟨v,h,k.mono a⟩,λ⟨v,h,k⟩ u c=>by rw[h] at c; simp at c; subst c; exact k.one⟩
section
variable {P:Program}{N:Nat}{Q:õ}{fr:Fr}{S:Υ}{ops:Array Oper}{l:Ŀ Oper}{dst:ŀ Nat}{ty:TypeId}{pos:String}{af:Array Edge}{g:ŀ (Nat×Bool)}
variable {w0:Bs}{G0 G:Mem}{L:Lo}{α:Type}{r:Rp α}
theorem Y0.K9{x:Operand}{t e:TypeId}{v:Value}{xs:Ŀ α}(c:P.underlying t=some (.slice e))(h:ë r G v xs)(d:fr.ev x=some v):Y0 P N ⟨dst,.call ⟨.builtin .len,#[x],#[t]⟩,ty,pos,af,g⟩ fr S (.int .i64 (xs.length:Int)):=by
 obtain⟨p,cap,cs,a,_⟩:=h
 subst a
 exact Y0.wQ c d
def AtK(r:Rp α)(G:Mem)(K:Nat->Value->Prop)(o:Nat)(x:α):Prop:=∃ c,r.jJ G c x/\∀ j u,c[j]? = some u->K (o+j) u
abbrev At(r:Rp α)(G:Mem)(b o:Nat)(x:α):Prop:=AtK r G (λk u=>G b k=some u) o x
theorem At.mono{G':Mem}{b o:Nat}{x:α}(h:At r G b o x)(a:Mem.le G G'):At r G' b o x:=by
 obtain⟨c,d,e⟩:=h
 exact⟨c,r.mono a d,λj u f=>a _ _ _ (e j u f)⟩
theorem AtK.mono{G':Mem}{K:Nat->Value->Prop}{o:Nat}{x:α}(h:AtK r G K o x)(a:Mem.le G G'):AtK r G' K o x:=by
 obtain⟨c,d,e⟩:=h
 exact⟨c,r.mono a d,e⟩
theorem ë.at{p:ŀ Addr}{n cap:Nat}{xs:Ŀ α}(h:ë r G (.slice p n cap) xs){i:Int}{x:α}(hi:0<=i/\xs[i.toNat]? = some x):At r G (pb p) (po p+i.toNat*r.size) x:=by
 obtain⟨p',e,cs,f,_,_,q,g,l⟩:=h
 cases f
 obtain⟨c,a,d⟩:=g.get hi.2
 exact⟨c,a,λj u m=>by rw[ż]; exact l _ _ (d j u m)⟩
theorem Y0.tT{t e:TypeId}{x y:Operand}{n cap sz:Nat}{p:ŀ Addr}{k:IntKind}{i:Int}{xs:Ŀ α}{z:α}(s:P.underlying t=some (.slice e))(c:(P.info? e).map (·.size)=some sz)(h:ë r G (.slice p n cap) xs)
  (u:fr.ev x=some (.slice p n cap)) (v:fr.ev y=some (.int k i)) (hi:0<=i/\xs[i.toNat]? = some z):Y0 P N ⟨dst,.indexAddr t x y,ty,pos,af,g⟩ fr S (.pointer (some ⟨pb p,po p+i.toNat*sz,none⟩)):=by
 obtain⟨p',d,cs,j,f,l,m,C,D⟩:=h
 cases j
 have q:=(Ć.1 hi.2).1
 have hp:=m (by omega)
 cases p with
 | none=>cases hp
 | some a=>
  obtain⟨w,A,B⟩:=a
  have:=l _ rfl (by omega)
  dsimp only at this
  subst this
  exact Y0.tU s c u v (by omega)
variable {K:Nat->Value->Prop}
theorem AtK.fst{β:Type}{q:Rp β}{o:Nat}{x:α×β}(h:AtK (Rp.pair r q) G K o x):AtK r G K o x.1:=by
 obtain⟨c,⟨d,g,rfl,e,i⟩,f⟩:=h
 exact⟨d,e,λj u a=>f j u (by rw[ĕ (Ć.1 a).1]; exact a)⟩
theorem AtK.snd{β:Type}{q:Rp β}{o:Nat}{x:α×β}(h:AtK (Rp.pair r q) G K o x):AtK q G K (o+r.size) x.2:=by
 obtain⟨c,⟨i,d,rfl,a,e⟩,f⟩:=h
 refine⟨d,e,λj u g=>?_⟩
 have:=f (r.size+j) u (by rw[Ī (by rw[r.len a]; omega),r.len a,aav]; exact g)
 rwa [<- ż] at this
theorem AtK.via{β:Type}{f:β->α}{o:Nat}{x:β}(h:AtK (Rp.via r f) G K o x):AtK r G K o (f x):=h
theorem AtK.int{k:IntKind}{o:Nat}{x:Int}(h:AtK (Rp.int k) G K o x):K o (.int k x):=by
 obtain⟨c,a,d⟩:=h
 have a:c=[.int k x]:=a
 subst a
 exact d 0 _ rfl
theorem AtK.str{o:Nat}{x:Ĳ}(h:AtK Rp.str G K o x):K o (.string x):=by
 obtain⟨c,a,d⟩:=h
 have a:c=[.string x]:=a
 subst a
 exact d 0 _ rfl
theorem AtK.sl{o:Nat}{x:Ŀ α}(h:AtK (Rp.sl r) G K o x):∃ p cap,K o (.slice p x.length cap)/\ë r G (.slice p x.length cap) x:=by
 obtain⟨c,⟨v,a,e⟩,d⟩:=h
 subst a
 have f:=d 0 _ rfl
 obtain⟨p,cap,cs,g,i⟩:=e
 subst g
 exact⟨p,cap,f,p,cap,cs,rfl,i⟩
theorem AtK.vec{α:Type}{mk:α->Value}{e:∀ x,(mk x).oneCell'=true}{n o:Nat}{x:Fin n->α}(h:AtK (Rp.í mk e n) G K o x):∀ j u,(EL.í mk n x).toArray[j]? = some u->K (o+j) u:=by
 obtain⟨c,a,d⟩:=h
 have a:c=EL.í mk n x:=a
 subst a
 intro j u f
 exact d j u (by simpa using f)
theorem AtK.rZ{α:Type}[Inhabited α]{mk:α->Value}{a:∀ x,(mk x).oneCell'=true}{n o:Nat}{x:Fin n->α}(h:AtK (Rp.í mk a n) G K o x){i:Int}(hi:0<=i/\i<(n:Int)):K (o+i.toNat) (mk (Κ x i)):=
 h.vec _ _ (BQ mk n x hi)
end
def Tok(size:Nat)(e:TypeId)(v:Value)(n:Nat):ŀ Ow->Prop
 | none=>∃ p,v = .slice p n n
 | some x=>∃ cap c,v = .slice (some ⟨x.b,0,none⟩) n cap/\x.o = .cells c e (0,0)/\x.m=n*size/\c.size=cap*size/\cap<=maxLen/\n<=cap
def mP(P:Program)(e:TypeId)(z:Value)(size bytes:Nat):Prop:=(P.info? e).map (λi=>(i.zero,i.size,i.bytes))=some (some z,size,bytes)
theorem mP.parts{P:Program}{e:TypeId}{z:Value}{size bytes:Nat}(h:mP P e z size bytes):∃ i,P.info? e=some i/\i.zero=some z/\i.size=size/\i.bytes=bytes:=by
 unfold mP at h
 cases hi:P.info? e with
 | none=>rw[hi] at h; cases h
 | some i=>rw[hi] at h; simp at h; exact⟨i,rfl,h.1,h.2.1,h.2.2⟩
def small:Nat:=1000000000
theorem Lo.QZ{L:Lo}{i:Nat}{x y:ŀ Ow}:Lo.sub ((i,x)::L) ((i,x)::(i,y)::L):=by
 intro k z a
 rw[Lo.Zn] at a ⊢
 split at a
 .rename_i e; rw[Ă e]; exact a
 rename_i e; rw[Ā e,Lo.Zn,Ā e]; exact a
section
variable {P:Program}{N:Nat}{Q:õ}{fr:Fr}{S:Υ}{ops:Array Oper}{l:Ŀ Oper}{dst:ŀ Nat}{ty:TypeId}{pos:String}{af:Array Edge}{g:ŀ (Nat×Bool)}
variable {w0:Bs}{G0 G:Mem}{L:Lo}{α:Type}{r:Rp α}
theorem ë.form{v:Value}{xs:Ŀ α}(h:ë r G v xs):∃ p cap,v = .slice p xs.length cap:=by
 obtain⟨p,cap,cs,a,_⟩:=h
 exact⟨p,cap,a⟩
theorem Mem.QU{b:Nat}{cs:Ŀ Value}{rest:Array Value}{j:Nat}{u:Value}{n:Nat}(c:cs.length=n)(h:cs[j]? = some u):Mem.row G b (cs.toArray++rest) 0 n b (0+j)=some u:=by
 have a:=(Ć.1 h).1
 rw[ļ,Mem.yc (ġ _) (by omega),ı (by simpa using a)]
 simpa using h
theorem Xf{t e:TypeId}{z:Value}{bytes m c:Nat}{xs ys:Ŀ α}{v:Value}{p:ŀ Addr}{id:Nat}{tk:ŀ Ow}(ty:TypeId)(W:P.underlying t=some (.slice e))(hE:mP P e z r.size bytes)(aI:z.cells.size=r.size)(ax:bytes<=100000)
  (hv:ë r G v xs) (S:L.get id=tk) (h0:w0.L.get id=none) (E:Tok r.size e v xs.length tk) (hx:ë r G (.slice p m c) ys) (aC:(xs++ys).length<=small)
  (w:World) (V:St w0 G0 G L w) :
  ∃ R f G' w',(Builtin.append_ #[t,t] ty #[v,.slice p m c]).run P w = .ok R w'/\Mem.le G G'/\ë r G' R (xs++ys)/\Tok r.size e R (xs++ys).length f/\St w0 G0 G' ((id,f)::L) w':=by
 obtain⟨i,hi,hz,I,aw⟩:=hE.parts
 obtain⟨px,aK,g,ar,aL,aG,aH,aa,ac⟩:=hx
 simp only[Value.slice.injEq] at ar
 obtain⟨rfl,rfl,rfl⟩:=ar
 obtain⟨pv,cap,cs,aE,aF,an,X,Y,Z⟩:=hv
 subst aE
 have T:=aa.len
 have A:=Y.len
 simp only[ā,small] at aC
 have U:xs.length+ys.length<=maxLen:=by simp only[maxLen]; omega
 have J:Ã r G (cs++g) (xs++ys):=Y.append aa
 have av:(xs.length+ys.length)*bytes<=140737488355328:=by
  have:(xs.length+ys.length)*bytes<=1000000000*100000:=aa6 (by omega) ax
  omega
 by_cases hm:ys.length=0
 .-- au is ad
  have hy:ys=[]:=ő hm
  subst hy
  simp only[ř,ğ] at *
  have ay:tk=none->xs.length=cap:=λe=>by subst e; obtain⟨q,hq⟩:=E; cases hq; rfl
  have ah:xs.length<=cap:=by
   cases tk with
   | none=>exact aa1 (ay rfl)
   | some x=>obtain⟨d,c',F,_,_,_,_,h6⟩:=E; cases F; exact h6
  refine⟨_,tk,G,w,?_,Mem.le_refl G,⟨pv,cap,cs,rfl,aF,an,X,Y,Z⟩,E,V.weaken (Lo.Ze S (Lo.tg _))⟩
  cases B:pv with
  | none=>
   have:¬ 0<xs.length:=λh=>by have:=X h; rw[B] at this; cases this
   cases p with
   | none=>
    by_cases H:xs.length<=cap
    .simp[Builtin.append_,đ W,sizeOf,typeInfo,hi,Builtin.lenOf,Builtin.firstCells,show xs.length=0 by omega]
    omega
   | some a=>simp[Builtin.append_,đ W,sizeOf,typeInfo,hi,Builtin.lenOf,Builtin.firstCells,loadCells,loadCellsFrom,show xs.length=0 by omega]
  | some a=>
   cases p with
   | none=>simp[Builtin.append_,đ W,sizeOf,typeInfo,hi,Builtin.lenOf,Builtin.firstCells,ah,storeCells]
   | some a=>simp[Builtin.append_,đ W,sizeOf,typeInfo,hi,Builtin.lenOf,Builtin.firstCells,ah,storeCells,loadCells,loadCellsFrom]
 have hp:=aH (by omega)
 obtain⟨pa,az⟩:=ū.1 hp
 subst az
 obtain⟨sb,so,ss⟩:=pa
 have al:=aG _ rfl (by omega)
 dsimp only at al
 subst al
 have ac:∀ j u,g[j]? = some u->G sb (so+j)=some u:=ac
 have D:∀ j u,g[j]? = some u->w.cell? ((⟨sb,so,none⟩:Addr).add j)=some u:=λj u y=>by rw[rD]; exact V.ls _ _ _ (ac j u y)
 have Q:=aa.one
 have C:g.length=ys.length*i.size:=by rw[I]; exact T
 have O:cs.length=xs.length*i.size:=by rw[I]; exact A
 have aJ:∀ (d:Nat),xs.length+ys.length<=d->d<=maxLen->∃ f G',Mem.le G G'/\ë r G' (.slice (some ⟨w.heap.size,0,none⟩) (xs.length+ys.length) d) (xs++ys)/\Tok r.size e (.slice (some ⟨w.heap.size,0,none⟩) (xs.length+ys.length) d) (xs++ys).length f/\
   St w0 G0 G' ((id,f)::L) (w.drew.alloc (.cells ((cs++g).toArray++Builtin.zeroCells z.cells (d-(xs.length+ys.length))) e)):=by
  intro d F h2
  have aA:St w0 G0 G L w.drew:=V.drew
  have h3:=aA.push id (.cells ((cs++g).toArray++Builtin.zeroCells z.cells (d-(xs.length+ys.length))) e)
  obtain⟨h4,h5⟩:=h3.q9 (i:=id) (n:=(xs.length+ys.length)*r.size) (by rw[Lo.Zn,Ă rfl]) h0 (ġ _)
  have N:(cs++g).length=(xs.length+ys.length)*r.size:=by rw[ā,A,T,ŋ]
  refine⟨_,_,h5,⟨_,_,cs++g,by rw[ā],by rw[ā]; simp only[maxLen] at h2; omega,λa ha _=>by cases ha; rfl,λ_=>rfl,J.mono h5,λj u y=>Mem.QU N y⟩,?_,h4.weaken Lo.QZ⟩
  refine⟨d,_,by rw[ā]; rfl,rfl,by rw[ā],?_,h2,by rw[ā]; exact F⟩
  simp only[aaC,ĥ,N,aa7,aI,<- ŋ]
  congr 1; omega
 have grow:∀ (hg:cap<xs.length+ys.length),∃ R f G' w',(Builtin.append_ #[t,t] ty #[.slice pv xs.length cap,.slice (some ⟨sb,so,none⟩) ys.length c]).run P w = .ok R w'/\Mem.le G G'/\ë r G' R (xs++ys)/\Tok r.size e R (xs++ys).length f/\St w0 G0 G' ((id,f)::L) w':=by
  intro hg
  have ae:=grownCap_ge w (xs.length+ys.length) cap e
  have ai:=aa8 w (xs.length+ys.length) cap e U
  obtain⟨f,G',k1,k2,k3,k4⟩:=aJ _ ae ai
  refine⟨_,f,G',_,?_,k1,k2,k3,k4⟩
  have ak:=Src.ofSlice (P:=P) w (size:=i.size) W ⟨sb,so,none⟩ ys.length c g C D Q
  have aj:(Builtin.firstCells i.size xs.length (.slice pv xs.length cap)).run P w.drew = .ok cs.toArray w.drew:=by
   cases B:pv with
   | none=>
    have:¬ 0<xs.length:=λh=>by have:=X h; rw[B] at this; cases this
    have H:cs=[]:=ő (by rw[A,show xs.length=0 by omega,fT])
    rw[H]
    exact aaW _ _ _ _ _
   | some a=>
    rcases Nat.eq_zero_or_pos xs.length with aq|aq
    .subst B
     have H:cs=[]:=ő (by rw[A,aq,fT])
     exact aao _ _ _ _ _ _ _ O (λj u y=>by rw[H] at y; simp at y)
    have ha:=an a B (by omega)
    obtain⟨ab,ao,ap⟩:=a
    dsimp only at ha
    subst ha
    subst B
    exact aao _ _ _ _ _ _ _ O (λj u y=>by rw[rD]; exact V.drew.ls _ _ _ (Z j u y))
  have:=run_append_grow_src (P:=P) w t t ty e i z W hi hz pv xs.length cap cs aj _ ys.length g ak hg (by omega) (growslice_fits hg (by rw[aw]; exact av))
  exact this
 cases tk with
 | none=>
  obtain⟨q,hq⟩:=E
  cases hq
  exact grow (by omega)
 | some x=>
  obtain⟨d,c',F,h2,h3,h4,h5,h6⟩:=E
  cases F
  by_cases s:xs.length+ys.length<=cap
  .obtain⟨xb,xo,xm⟩:=x
   dsimp only at h2 h3
   subst h2 h3
   have l:=(V.loc id _ S).1
   dsimp only at l
   have K:xs.length*i.size+g.length<=c'.size:=by rw[C,h4,I,<- ŋ]; exact ga _ s
   have hr:=run_append_room (P:=P) w t ty e i W hi xb xs.length cap c' l ⟨sb,so,none⟩ ys.length c g C D Q s K
   rw[I] at hr K
   have aB:(c'.toList.take (xs.length*r.size)++g++c'.toList.drop (xs.length*r.size+g.length)).length=c'.size:=by
    simp only[ā,Đ,Ž,Ĭ]
    omega
   have am:=V.sJ (w':=w.setRow xb (c'.toList.take (xs.length*r.size)++g++c'.toList.drop (xs.length*r.size+g.length)).toArray) (o':=.cells (c'.toList.take (xs.length*r.size)++g++c'.toList.drop (xs.length*r.size+g.length)).toArray e (0,0)) S (by simp[World.setRow,ħ,l]) (č _)
    (λk R hk aD=>by
     have F:=V.ls _ _ _ aD
     dsimp only at F hk
     rw[ŧ w xb k c' e (0,0) l] at F
     rw[ŧ _ xb k _ e (0,0) (by simp[World.setRow,ħ,l]; rfl)]
     rw[ę,ĕ (by simp only[Đ,Ĭ]; omega),Ň,Ă hk]
     simpa using F)
    (λk hk=>by
     simp only[World.setRow,ħ]
     rw[Ā (λe=>hk e.symm)]) rfl rfl rfl rfl (by simp[World.setRow])
   obtain⟨h7,h8⟩:=am.q9 (i:=id) (n:=(xs.length+ys.length)*r.size) (by rw[Lo.Zn,if_pos rfl]) h0 (by dsimp only; rw[Nat.add_mul]; omega)
   refine⟨_,_,_,_,hr,h8,⟨_,_,cs++g,by rw[ā],by rw[ā]; simp only[maxLen] at h5; omega,λa ha _=>by cases ha; rfl,λ_=>rfl,J.mono h8,λj u y=>?_⟩,?_,h7.weaken Lo.QZ⟩
   .by_cases hj:j<cs.length
    .rw[ĕ hj] at y
     exact h8 _ _ _ (Z j u y)
    have ag:j<(cs++g).length:=(Ć.1 y).1
    rw[ā] at ag
    rw[Ī (by omega)] at y
    show Mem.row G xb _ _ _ xb (0+j)=some u
    rw[Nat.zero_add,Mem.yc (by dsimp only; rw[<- A]; omega) (by rw[Nat.add_mul,<- A,<- T]; exact ag)]
    rw[ę,ď,Ī (by simp only[Đ,Ĭ]; omega),ĕ (by simp only[Đ,Ĭ]; omega)]
    rw[<- y]
    congr 1
    simp only[Đ,Ĭ]
    omega
   exact⟨cap,_,by rw[ā],rfl,by rw[ā],by rw[ĥ,aB,h4],h5,by rw[ā]; exact s⟩
  exact grow (by omega)
theorem WL.vj{t e:TypeId}{z:Value}{s x:Operand}{bytes m c:Nat}{v:Value}{xs ys:Ŀ α}{p:ŀ Addr}{tk:ŀ Ow}(id:Nat)(J:κ ops fr ⟨dst,.call ⟨.builtin .append,#[s,x],#[t,t]⟩,ty,pos,af,g⟩ true)(I:è N dst)
  (R:P.underlying t=some (.slice e)) (H:mP P e z r.size bytes) (E:z.cells.size=r.size) (y:bytes<=100000) (O:fr.ev s=some v) (T:fr.ev x=some (.slice p m c)) (S:ë r G v xs) (A:L.get id=tk) (F:w0.L.get id=none) (D:Tok r.size e v xs.length tk)
  (U:ë r G (.slice p m c) ys) (C:(xs++ys).length<=small)
  (k:∀ p' f d G',Mem.le G G'->ë r G' (.slice p' (xs++ys).length f) (xs++ys)->Tok r.size e (.slice p' (xs++ys).length f) (xs++ys).length d->WL P N ops Q l (ξ dst (.slice p' (xs++ys).length f) fr) (St w0 G0 G' ((id,d)::L))) :
  WL P N ops Q (⟨dst,.call ⟨.builtin .append,#[s,x],#[t,t]⟩,ty,pos,af,g⟩::l) fr (St w0 G0 G L):=by
 refine WL.yr (Φ:=λj w=>∃ d G',Mem.le G G'/\ë r G' j (xs++ys)/\Tok r.size e j (xs++ys).length d/\St w0 G0 G' ((id,d)::L) w) J (λa w i B=>?_) I (λv a w i ⟨d,G',n,h,q,u⟩=>?_)
 .obtain⟨j,d,G',w',K,n,h,q,u⟩:=Xf (w0:=w0) (G0:=G0) ty R H E y S A F D U C w B
  have:(execOp a.eval ⟨dst,.call ⟨.builtin .append,#[s,x],#[t,t]⟩,ty,pos,af,g⟩).run P w = .ok (.value j) w':=by
   simp[execOp,resolve,invoke,builtin,i.ev O,i.ev T,K]
  rw[this]
  exact⟨d,G',n,h,q,u⟩
 obtain⟨p',f,rfl⟩:=h.form
 exact k p' f d G' n h q a w i u
theorem WL.rb{t e:TypeId}{len:Nat}{parts:Array (Nat×Operand)}{vs:Array (Nat×Value)}{cs:Ŀ Value}(xs:Ŀ α)(T:κ ops fr ⟨dst,.buildSlice t len parts,ty,pos,af,g⟩ true)(S:è N dst)
  (B:fr.nX (parts.toList.map (·.2))=some (vs.toList.map (·.2))) (d:parts.toList.map (·.1)=vs.toList.map (·.1)) (c:xs.length=len) (I:len<=small)
  (h:∀ w,(Instr.buildSlice t len vs).run P w = .ok (.slice (some ⟨w.heap.size,0,none⟩) len len) (w.alloc (.cells cs.toArray e))) (f:Ã r G cs xs) {key:Nat}(y:L.get key=none) (R:w0.L.get key=none)
  (k:∀ p G',Mem.le G G'->ë r G' (.slice p len len) xs->WL P N ops Q l (ξ dst (.slice p len len) fr) (St w0 G0 G' L)):WL P N ops Q (⟨dst,.buildSlice t len parts,ty,pos,af,g⟩::l) fr (St w0 G0 G L):=by
 refine WL.yr (Φ:=λv w=>∃ p G',v = .slice p len len/\Mem.le G G'/\ë r G' (.slice p len len) xs/\St w0 G0 G' L w) T (λa w s U=>?_) S (λv a w s ⟨p,G',m,D,E,F⟩=>?_)
 .have m:=s.nX _ _ B
  have D:(parts.map λp=>(p.1,a.eval p.2))=vs:=by
   apply fj
   simp only[aaP]
   have O:parts.toList.length=vs.toList.length:=by have:=ć List.length d; simpa using this
   generalize parts.toList=ps at *
   generalize vs.toList=C at *
   clear h B
   induction ps generalizing C with
   | nil=>cases C <;> simp_all
   | cons p ps W=>
    cases C with
    | nil=>simp at O
    | cons q C=>
     simp only[ė,fv] at d m ⊢
     exact⟨abR d.1 m.1,W C d.2 m.2 (by simpa using O)⟩
  have E:(parts.map λ(i,x)=>(i,a.eval x))=vs:=D
  have:(execOp a.eval ⟨dst,.buildSlice t len parts,ty,pos,af,g⟩).run P w = .ok (.value (.slice (some ⟨w.heap.size,0,none⟩) len len)) (w.alloc (.cells cs.toArray e)):=by
   simp only[execOp,E]
   simp[h w]
  rw[this]
  have H:=f.len
  obtain⟨F,K⟩:=(U.push key (.cells cs.toArray e)).q9 (i:=key) (n:=len*r.size) (by rw[Lo.Zn,Ă rfl]) R (ġ _)
  refine⟨_,_,rfl,K,⟨_,_,cs,by rw[c],by rw[c]; simp only[small] at I; omega,λa s _=>by cases s; rfl,λ_=>rfl,f.mono K,λj u V=>?_⟩,F.weaken (λi x J=>?_)⟩
  .have:=Mem.QU (G:=G) (b:=w.heap.size) (rest:=#[]) (n:=len*r.size) (by rw[H,c]) V
   rw[Array.append_empty] at this
   exact this
  have A:key≠i:=λe=>by subst e; rw[y] at J; cases J
  rw[Lo.Zn,Ā A,Lo.Zn,Ā A]
  exact J
 subst m
 exact k p G' D E a w s F
theorem Tok.full{size:Nat}{e:TypeId}{p:ŀ Addr}{n:Nat}:Tok size e (.slice p n n) n none:=⟨p,rfl⟩
theorem ë.take{p:ŀ Addr}{n cap:Nat}{xs:Ŀ α}{lo hi:Nat}(h:ë r G (.slice p n cap) xs)(F:lo<=hi)(R:hi<=xs.length){q:ŀ Addr}{c:Nat}(d:q=p.map (λa=>⟨a.block,a.off+lo*r.size,none⟩)\/(lo=hi/\q=p/\c<=cap))(J:hi-lo<=c/\c<=9223372036854775807):ë r G (.slice q (hi-lo) c) ((xs.take hi).drop lo):=by
 obtain⟨p',s,cs,C,S,H,t,v,I⟩:=h
 cases C
 have y:((xs.take hi).drop lo).length=hi-lo:=by simp; omega
 by_cases w:lo=hi
 .subst w
  have:(xs.take lo).drop lo=[]:=by apply ő; omega
  rw[this,Nat.sub_self]
  exact⟨q,c,[],rfl,by simp; omega,λa e K=>by
   rcases d with d|⟨_,d,L⟩
   .cases p with
    | none=>rw[d] at e; cases e
    | some b=>rw[d] at e; cases e; rfl
   rw[d] at e; exact H a e (by omega),λh=>by simp at h,rfl,λj u h=>by simp at h⟩
 have d:=d.resolve_right (λh=>w h.1)
 have m:xs=xs.take lo++((xs.take hi).drop lo++xs.drop hi):=by
  have:xs.take hi=(xs.take hi).take lo++(xs.take hi).drop lo:=(Ő lo (xs.take hi)).symm
  rw[List.take_take,aae F] at this
  rw[<- ď,<- this,Ő]
 rw[m] at v
 obtain⟨Q,d1,D,N,O⟩:=v.split
 obtain⟨B,d2,E,P,T⟩:=O.split
 have f:=N.len
 have g:(xs.take lo).length=lo:=by simp; omega
 refine⟨q,c,B,by rw[y],by rw[y]; exact J,λa e _=>?_,λh=>?_,P,λj u A=>?_⟩
 .cases p with
  | none=>rw[d] at e; cases e
  | some b=>rw[d] at e; cases e; rfl
 .have:=t (by omega)
  rw[d]; simpa using this
 have i:=(Ć.1 A).1
 have:=I (lo*r.size+j) u (by
  subst D E
  rw[Ī (by rw[f,g]; omega),f,g,aav,ĕ i]
  exact A)
 have l:=t (by omega)
 cases p with
 | none=>cases l
 | some b=>
  subst d
  simp only[pb,po,Ĥ] at this ⊢
  rw[ż]
  exact this
end
theorem ZG{α:Type}(mk:α->Value)(n:Nat)(f:Fin n->α):(í mk n f).toArray.size=n:=by simp[uG]
theorem nu(b:Bool):b=decide (b=true):=by cases b <;> rfl
section
variable {P:Program}{N:Nat}{Q:õ}{fr:Fr}{S:Υ}{ops:Array Oper}{l:Ŀ Oper}{dst:ŀ Nat}{ty:TypeId}{pos:String}{af:Array Edge}{g:ŀ (Nat×Bool)}
variable {w0:Bs}{G0 G:Mem}{L:Lo}{α:Type}{r:Rp α}
theorem Y0.vB{t e:TypeId}{x y:Operand}{len b off:Nat}{k:IntKind}{i:Int}(c:P.underlying t=some (.array len e))(a:(P.info? e).map (·.size)=some 1)
  (d:fr.ev x=some (.pointer (some ⟨b,off,none⟩))) (f:fr.ev y=some (.int k i)) (hi:0<=i/\i<len):Y0 P N ⟨dst,.indexAddr t x y,ty,pos,af,g⟩ fr S (.pointer (some ⟨b,off+i.toNat,none⟩)):=
 (Y0.oQ c a d f hi).eq (by simp)
theorem Y0.jH{t e:TypeId}{x y:Operand}{len b:Nat}{k:IntKind}{i:Int}(c:P.underlying t=some (.array len e))(a:(P.info? e).map (·.size)=some 1)
  (d:fr.ev x=some (.pointer (some ⟨b,0,none⟩))) (f:fr.ev y=some (.int k i)) (hi:0<=i/\i<len):Y0 P N ⟨dst,.indexAddr t x y,ty,pos,af,g⟩ fr S (.pointer (some ⟨b,i.toNat,none⟩)):=
 (Y0.oQ c a d f hi).eq (by simp)
theorem Y0.tX{x:Operand}{t:TypeId}{s:Ĳ}(d:P.underlying t=some .string)(e:fr.ev x=some (.string s)):Y0 P N ⟨dst,.call ⟨.builtin .len,#[x],#[t]⟩,ty,pos,af,g⟩ fr S (.int .i64 (s.size:Int)):=λa w c _=>by
 simp[execOp,resolve,invoke,builtin,c.ev e,Builtin.len_,đ d,goInt]
theorem MW{e:TypeId}{k:IntKind}(q:P.underlying e=some (.int k))(p:ê P e)(m:P.cellsOf e=1){n:Nat}(a b:Fin n->Int)(w:World)(d:Nat):∀ (f:Ŀ Nat),(∀ i,i ∈ f->i<n)->
  (Op.eqItems (d+1) e (P.cellsOf e) (ow k n a).toArray (ow k n b).toArray f).run P w = .ok (decide (∀ i:Fin n,i.val ∈ f->a i=b i)) w
 | [],_=>by simp[Op.eqItems]
 | i::f,h=>by
  have hi:i<n:=h i (by simp)
  have t:=MW q p m a b w d f (λj l=>h j (by simp[l]))
  have p1:(part e (ow k n a).toArray (i*P.cellsOf e)).run P w = .ok (.int k (a ⟨i,hi⟩)) w:=A5 p (by rw[m,gd,ę]; exact th _ n a hi) w
  have p2:(part e (ow k n b).toArray (i*P.cellsOf e)).run P w = .ok (.int k (b ⟨i,hi⟩)) w:=A5 p (by rw[m,gd,ę]; exact th _ n b hi) w
  have p3:=run_equalIn_int (P:=P) w d e k k (a ⟨i,hi⟩) (b ⟨i,hi⟩) q
  simp only[Op.eqItems,aaD,p1,p2,p3,gf]
  by_cases c:a ⟨i,hi⟩=b ⟨i,hi⟩
  .simp only[c,beq_self_eq_true,abN,Ŏ,aad,t]
   congr 1
   apply ž.2
   constructor
   .intro g j l
    rcases ą.1 l with e|e
    .have:j=⟨i,hi⟩:=gg e
     rw[this]; exact c
    exact g j e
   exact λg j l=>g j (by simp[l])
  have r:(a ⟨i,hi⟩ == b ⟨i,hi⟩)=false:=by simpa using c
  have s:decide (∀ j:Fin n,j.val ∈ i::f->a j=b j)=false:=ċ λg=>c (g ⟨i,hi⟩ (by simp))
  rw[s]
  simp[r]
instance adu {n:Nat}:DecidableEq (Fin n->Int):=λa b=>decidable_of_iff (∀ i,a i=b i) ⟨λh=>funext h,λh i=>by rw[h]⟩
theorem Nk{t e:TypeId}{k:IntKind}{n:Nat}(p:P.underlying t=some (.array n e))(l:P.underlying e=some (.int k))(m:ê P e)(c:(P.info? e).map (·.size)=some 1)(a b:Fin n->Int)(w:World):
  (Op.equal t (.agg (ow k n a).toArray) (.agg (ow k n b).toArray)).run P w = .ok (decide (a=b)) w:=by
 cases hi:P.info? e with
 | none=>simp[hi] at c
 | some i=>
  have g:P.cellsOf e=1:=by simp[Program.cellsOf,c]
  have d:=run_equalIn_array (P:=P) w 9999 (ow k n a).toArray (ow k n b).toArray p hi
  have f:=MW l m g a b w 9998 (List.range n) (by simp)
  unfold Op.equal
  show (Op.equalIn (9999+1) t _ _).run P w=_
  rw[d,f]
  congr 1
  apply ž.2
  constructor
  .intro h; funext j; exact h j (by simp)
  intro h j _; rw[h]
theorem Y0.yB{t e yt:TypeId}{x y:Operand}{k:IntKind}{n:Nat}{a b:Fin n->Int}(h:P.underlying t=some (.array n e))(d:P.underlying e=some (.int k))(f:ê P e)(l:(P.info? e).map (·.size)=some 1)(c:P.eqGuardType P.depth t=false)
  (i:fr.ev x=some (.agg (ow k n a).toArray)) (j:fr.ev y=some (.agg (ow k n b).toArray)):Y0 P N ⟨dst,.binOp .eql t x y yt,ty,pos,af,g⟩ fr S (.bool (decide (a=b))):=
 Y0.bin i j (λw=>abx w _ _ _ _ _ _ c) λw=>by simp[binOp,Nk h d f l]
theorem Y0.Lf{t e yt:TypeId}{x y:Operand}{k:IntKind}{n:Nat}{a b:Fin n->Int}(h:P.underlying t=some (.array n e))(d:P.underlying e=some (.int k))(f:ê P e)(l:(P.info? e).map (·.size)=some 1)(c:P.eqGuardType P.depth t=false)
  (i:fr.ev x=some (.agg (ow k n a).toArray)) (j:fr.ev y=some (.agg (ow k n b).toArray)):Y0 P N ⟨dst,.binOp .neq t x y yt,ty,pos,af,g⟩ fr S (.bool (decide (¬ a=b))):=
 Y0.bin i j (λw=>abx w _ _ _ _ _ _ c) λw=>by simp[binOp,Nk h d f l]
theorem YO{t e:TypeId}{n cap sz:Nat}{p:ŀ Addr}{xs:Ŀ α}(A:P.underlying t=some (.slice e))(q:(P.info? e).map (·.size)=some sz)(m:sz=r.size)(h:ë r G (.slice p n cap) xs){low high:ŀ Value}{lo hi:Int}
  (l:low=none/\lo=0\/∃ k,low=some (.int k lo)) (j:high=none/\hi=(xs.length:Int)\/∃ k,high=some (.int k hi)) (E:0<=lo/\lo<=hi/\hi<=(xs.length:Int)) (w:World) :
  ∃ v,(Instr.slice t (.slice p n cap) low high none).run P w = .ok v w/\ë r G v ((xs.take hi.toNat).drop lo.toNat):=by
 have y:n=xs.length:=by obtain⟨p',d,cs,c,_⟩:=h; cases c; rfl
 have u:n<=cap/\cap<=9223372036854775807:=by obtain⟨p',d,cs,c,g,_⟩:=h; cases c; exact g
 have f:∀ a,p=some a->0<cap->a.spot=none:=by obtain⟨p',d,cs,c,_,g,_⟩:=h; cases c; exact g
 have i:(Instr.sliceBounds true n cap low high none).run P w = .ok (lo.toNat,hi.toNat,cap) w:=by
  rcases l with ⟨rfl,rfl⟩|⟨k,rfl⟩ <;> rcases j with ⟨rfl,rfl⟩|⟨k',rfl⟩
  .simp[Instr.sliceBounds,y]
  .have c:0<=hi/\hi<=(cap:Int):=by omega
   simp[Instr.sliceBounds,Instr.sliceBound,asIntOf,c]
  .have c:0<=lo/\lo<=(n:Int):=by omega
   simp[Instr.sliceBounds,Instr.sliceBound,asIntOf,c,y]
   intro h; omega
  have c:0<=hi/\hi<=(cap:Int):=by omega
  have g:0<=lo/\lo<=((hi.toNat:Nat):Int):=by omega
  simp[Instr.sliceBounds,Instr.sliceBound,asIntOf,c,g]
  intro h; omega
 refine⟨.slice (if cap=lo.toNat then p else p.map (·.add (lo.toNat*sz))) (hi.toNat-lo.toNat) (cap-lo.toNat),?_,?_⟩
 .simp[Instr.slice,đ A,i,run_sizeOf q]
 refine h.take (by omega) (by omega) ?_ (by omega)
 by_cases s:cap=lo.toNat
 .right
  rw[Ă s]
  exact⟨by omega,rfl,by omega⟩
 left
 rw[Ā s]
 cases p with
 | none=>rfl
 | some a=>
  obtain⟨B,C,D⟩:=a
  have:=f _ rfl (by omega)
  dsimp only at this
  subst this
  simp only[Ĥ,rD,m]
theorem WL.yL{t e:TypeId}{x:Operand}{f c:ŀ Operand}{low high:ŀ Value}{n cap sz:Nat}{p:ŀ Addr}{xs:Ŀ α}{lo hi:Int}(D:κ ops fr ⟨dst,.slice t x f c none,ty,pos,af,g⟩ true)(C:è N dst)
  (A:P.underlying t=some (.slice e)) (y:(P.info? e).map (·.size)=some sz) (u:sz=r.size) (h:ë r G (.slice p n cap) xs) (K:fr.ev x=some (.slice p n cap))
  (F:∀ a,Rel N fr a->f.map a.eval=low) (E:∀ a,Rel N fr a->c.map a.eval=high)
  (s:low=none/\lo=0\/∃ k,low=some (.int k lo)) (q:high=none/\hi=(xs.length:Int)\/∃ k,high=some (.int k hi)) (B:0<=lo/\lo<=hi/\hi<=(xs.length:Int))
  (k:∀ p' d,ë r G (.slice p' ((xs.take hi.toNat).drop lo.toNat).length d) ((xs.take hi.toNat).drop lo.toNat)->WL P N ops Q l (ξ dst (.slice p' ((xs.take hi.toNat).drop lo.toNat).length d) fr) (St w0 G0 G L)) :
  WL P N ops Q (⟨dst,.slice t x f c none,ty,pos,af,g⟩::l) fr (St w0 G0 G L):=by
 refine WL.yr (Φ:=λv w=>ë r G v ((xs.take hi.toNat).drop lo.toNat)/\St w0 G0 G L w) D (λa w i I=>?_) C (λv a w i ⟨j,m⟩=>?_)
 .obtain⟨v,H,J⟩:=YO A y u h s q B w
  have:(execOp a.eval ⟨dst,.slice t x f c none,ty,pos,af,g⟩).run P w = .ok (.value v) w:=by
   have j:=F a i
   have m:=E a i
   simp only[execOp,i.ev K,j,m,Ŕ]
   simp[Instr.sliceAt,đ A,H]
  rw[this]
  exact⟨J,I⟩
 obtain⟨p',d,rfl⟩:=j.form
 exact k p' d j a w i m
theorem WL.rV{t e:TypeId}{x i:Operand}{m:IntKind}{n cap sz:Nat}{p:ŀ Addr}{xs:Ŀ α}{hi:Int}(v:κ ops fr ⟨dst,.slice t x none (some i) none,ty,pos,af,g⟩ true)(u:è N dst)
  (w:P.underlying t=some (.slice e)) (f:(P.info? e).map (·.size)=some sz) (d:sz=r.size) (h:ë r G (.slice p n cap) xs) (y:fr.ev x=some (.slice p n cap)) (q:fr.ev i=some (.int m hi)) (s:0<=(0:Int)/\(0:Int)<=hi/\hi<=(xs.length:Int))
  (k:∀ p' c,ë r G (.slice p' ((xs.take hi.toNat).drop (0:Int).toNat).length c) ((xs.take hi.toNat).drop (0:Int).toNat)->WL P N ops Q l (ξ dst (.slice p' ((xs.take hi.toNat).drop (0:Int).toNat).length c) fr) (St w0 G0 G L)) :
  WL P N ops Q (⟨dst,.slice t x none (some i) none,ty,pos,af,g⟩::l) fr (St w0 G0 G L):=
 WL.yL (low:=none) (high:=some (.int m hi)) v u w f d h y (λa j=>rfl) (λa j=>by simp[j.ev q]) (.inl ⟨rfl,rfl⟩) (.inr ⟨_,rfl⟩) s k
end
end Go.EL

namespace Go.EL
open Go.IntKind (i8 i16 i32 i64 u8 u16 u32 u64)
open Go Go.RowKit Go.Proofs
def qt(tk:ŀ Ow)(o:Nat)(u:Value):Prop:=∃ b c e m,tk=some ⟨b,.cells c e (0,0),m⟩/\c[o]? = some u
def Η{α:Type}(r:Rp α)(e:TypeId)(G:Mem)(v:Value)(xs:Ŀ α):ŀ Ow->Prop
 | none=>xs=[]/\∃ p,v = .slice p 0 0/\∀ a,p=some a->(0:Nat)<0->a.spot=none
 | some x=>∃ cap cs rest,v = .slice (some ⟨x.b,0,none⟩) xs.length cap/\x.o = .cells (cs++rest).toArray e (0,0)/\x.m=0/\Ã r G cs xs/\(cs++rest).length=cap*r.size/\cap<=maxLen/\xs.length<=cap
section
variable {w0:Bs}{G0 G:Mem}{L:Lo}{α:Type}{r:Rp α}{e:TypeId}
theorem Η.form{v:Value}{xs:Ŀ α}{tk:ŀ Ow}(h:Η r e G v xs tk):∃ p cap,v = .slice p xs.length cap:=by
 cases tk with
 | none=>obtain⟨rfl,p,h,_⟩:=h; exact⟨p,0,h⟩
 | some x=>obtain⟨cap,cs,rest,h,_⟩:=h; exact⟨_,cap,h⟩
theorem Η.mono{G':Mem}{v:Value}{xs:Ŀ α}{tk:ŀ Ow}(h:Η r e G v xs tk)(a:Mem.le G G'):Η r e G' v xs tk:=by
 cases tk with
 | none=>exact h
 | some x=>obtain⟨cap,cs,rest,c,d,f,g,i⟩:=h; exact⟨cap,cs,rest,c,d,f,g.mono a,i⟩
theorem Η.nil:Η r e G (.slice none 0 0) [] none:=⟨rfl,none,rfl,λ_ h=>by cases h⟩
theorem Η.at{p:ŀ Addr}{n cap:Nat}{xs:Ŀ α}{tk:ŀ Ow}(h:Η r e G (.slice p n cap) xs tk){i:Int}{x:α}(hi:0<=i/\xs[i.toNat]? = some x):AtK r G (qt tk) (i.toNat*r.size) x:=by
 cases tk with
 | none=>obtain⟨rfl,_⟩:=h; simp at hi
 | some y=>
  obtain⟨f,cs,rest,t,g,l,m,v,_⟩:=h
  obtain⟨c,a,d⟩:=m.get hi.2
  obtain⟨s,A,w⟩:=y
  dsimp only at g l
  subst g l
  refine⟨c,a,λj u q=>⟨s,_,e,0,rfl,?_⟩⟩
  have:=d j u q
  rw[ę,ĕ (Ć.1 this).1]
  exact this
theorem Η.block{p:ŀ Addr}{n cap:Nat}{xs:Ŀ α}{x:Ow}(h:Η r e G (.slice p n cap) xs (some x)):pb p=x.b/\po p=0:=by
 obtain⟨a,cs,rest,c,_⟩:=h
 cases c
 exact⟨rfl,rfl⟩
theorem St.uv{i b m:Nat}{o:Obj}{w:World}(h:St w0 G0 G ((i,some ⟨b,o,m⟩)::L) w)(g:∀ k,G b k=none):St w0 G0 G ((i,some ⟨b,o,0⟩)::L) w:=by
 have hi:Lo.get ((i,some ⟨b,o,m⟩)::L) i=some ⟨b,o,m⟩:=by rw[Lo.Zn,Ă rfl]
 obtain⟨r,s,t⟩:=h.loc i _ hi
 have key:∀ j y,Lo.get ((i,some ⟨b,o,0⟩)::L) j=some y->∃ y',Lo.get ((i,some ⟨b,o,m⟩)::L) j=some y'/\y'.b=y.b:=by
  intro j y a
  rw[Lo.Zn] at a ⊢
  split at a
  .rename_i e; rw[Ă e]; cases a; exact⟨_,rfl,rfl⟩
  rename_i e; rw[Ā e]; exact⟨y,a,rfl⟩
 refine { h with loc:=λj y a=>?_,gY:=λj k y z c d f=>?_ }
 .rw[Lo.Zn] at a
  split at a
  .rename_i e
   subst e
   cases a
   exact⟨r,s,λk _=>g k⟩
  rename_i e
  exact h.loc j y (by rw[Lo.Zn,Ā e]; exact a)
 obtain⟨y',l,n⟩:=key j y d
 obtain⟨z',p,q⟩:=key k z f
 rw[<- n,<- q]
 exact h.gY j k y' z' c l p
theorem Η.freeze{v:Value}{xs:Ŀ α}{tk:ŀ Ow}{key:Nat}(h:Η r e G v xs tk)(c:L.get key=tk)(D:w0.L.get key=none){w:World}(f:St w0 G0 G L w):
  ∃ G' d,Mem.le G G'/\ë r G' v xs/\Tok r.size e v xs.length d/\St w0 G0 G' ((key,d)::L) w/\(∀ Gx L' w',Mem.le G Gx->Mem.le G' Gx->St w0 G0 Gx ((key,d)::L') w'->St w0 G0 G ((key,tk)::L') w'):=by
 cases tk with
 | none=>
  obtain⟨rfl,p,rfl,hp⟩:=h
  exact⟨G,none,Mem.le_refl _,⟨p,0,[],rfl,by simp,hp,λh=>by simp at h,rfl,λj u h=>by simp at h⟩,⟨p,rfl⟩,f.weaken (Lo.Ze c (Lo.tg _)),λGx L' w' E _ g=>g.jt f.base E⟩
 | some x=>
  obtain⟨cap,cs,rest,rfl,g,m,q,F,s,H⟩:=h
  obtain⟨l,P,O⟩:=x
  dsimp only at g m
  subst g m
  have J:=q.len
  obtain⟨K,A⟩:=f.q9 (i:=key) (n:=xs.length*r.size) c D (ġ _)
  refine⟨_,some ⟨l,.cells (cs++rest).toArray e (0,0),xs.length*r.size⟩,A,⟨_,cap,cs,rfl,by simp only[maxLen] at s; omega,λa I _=>by cases I; rfl,λ_=>rfl,q.mono A,λj u y=>?_⟩,⟨cap,_,rfl,rfl,rfl,by simpa using F,s,H⟩,K,λGx L' w' B N C=>?_⟩
  .have t:=(Ć.1 y).1
   show Mem.row G l _ 0 _ l (0+j)=some u
   rw[ļ,Mem.yc (ġ _) (by rw[<- J]; exact t),ę,ĕ t]
   exact y
  exact (C.jt f.base B).uv (λk=>(f.loc key _ c).2.2 k (ġ _))
end
section
variable {P:Program}{N:Nat}{Q:õ}{fr:Fr}{S:Υ}{ops:Array Oper}{l:Ŀ Oper}{dst:ŀ Nat}{ty:TypeId}{pos:String}{af:Array Edge}{g:ŀ (Nat×Bool)}
variable {w0:Bs}{G0 G:Mem}{L:Lo}{α:Type}{r:Rp α}{e:TypeId}
theorem WL.kT{v:Value}{xs:Ŀ α}{tk:ŀ Ow}(key:Nat)(h:Η r e G v xs tk)(d:L.get key=tk)(f:w0.L.get key=none)
  (k:∀ c G',Mem.le G G'->ë r G' v xs->Tok r.size e v xs.length c->WL P N ops Q l fr (St w0 G0 G' ((key,c)::L))):WL P N ops Q l fr (St w0 G0 G L):=λa w n p=>by
 obtain⟨G',c,g,i,j,m,_⟩:=h.freeze d f p
 exact k c G' g i j a w n m
theorem WE.kT{x:Exit}{v:Value}{xs:Ŀ α}{tk:ŀ Ow}(key:Nat)(h:Η r e G v xs tk)(d:L.get key=tk)(f:w0.L.get key=none)
  (k:∀ c G',Mem.le G G'->ë r G' v xs->Tok r.size e v xs.length c->WE N Q x fr (St w0 G0 G' ((key,c)::L))):WE N Q x fr (St w0 G0 G L):=λa w m n=>by
 obtain⟨G',c,g,i,j,l,_⟩:=h.freeze d f n
 exact k c G' g i j a w m l
theorem Y0.tW{x:Operand}{t e':TypeId}{v:Value}{xs:Ŀ α}{tk:ŀ Ow}(a:P.underlying t=some (.slice e'))(h:Η r e G v xs tk)(c:fr.ev x=some v):Y0 P N ⟨dst,.call ⟨.builtin .len,#[x],#[t]⟩,ty,pos,af,g⟩ fr S (.int .i64 (xs.length:Int)):=by
 obtain⟨p,cap,rfl⟩:=h.form
 exact Y0.wQ a c
theorem Y0.pT{t e':TypeId}{x y:Operand}{n cap sz:Nat}{p:ŀ Addr}{k:IntKind}{i:Int}{xs:Ŀ α}{z:α}{tk:ŀ Ow}(j:P.underlying t=some (.slice e'))(a:(P.info? e').map (·.size)=some sz)(h:Η r e G (.slice p n cap) xs tk)
  (l:fr.ev x=some (.slice p n cap)) (m:fr.ev y=some (.int k i)) (hi:0<=i/\xs[i.toNat]? = some z):Y0 P N ⟨dst,.indexAddr t x y,ty,pos,af,g⟩ fr S (.pointer (some ⟨pb p,i.toNat*sz,none⟩)):=by
 cases tk with
 | none=>obtain⟨rfl,_⟩:=h; simp at hi
 | some q=>
  obtain⟨c,cs,rest,d,_⟩:=h
  cases d
  have f:=(Ć.1 hi.2).1
  exact (Y0.tU j a l m (by omega)).eq (by simp[pb])
theorem Y0.loadT{t:TypeId}{x:Operand}{p:ŀ Addr}{n cap off key:Nat}{v:Value}{xs:Ŀ α}{tk:ŀ Ow}(i:ê P t)(h:Η r e G (.slice p n cap) xs tk)(a:L.get key=tk)(d:fr.ev x=some (.pointer (some ⟨pb p,off,none⟩)))
  (j:qt tk off v):Y0 P N ⟨dst,.load t x,ty,pos,af,g⟩ fr (St w0 G0 G L) v:=by
 obtain⟨b,c,e',m,rfl,f⟩:=j
 rw[h.block.1] at d
 exact Y0.gN key i d a f
theorem WL.storeT{t:TypeId}{x y:Operand}{p:ŀ Addr}{n cap sz:Nat}{val:Value}{cs':Ŀ Value}{i:Int}{xs:Ŀ α}{z z':α}{tk:ŀ Ow}(key:Nat)(hg:κ ops fr ⟨none,.store t x y,ty,pos,af,g⟩ true)(ht:(P.info? t).map (·.size)=some sz)(f:sz=r.size)
  (h:Η r e G (.slice p n cap) xs tk) (v:L.get key=tk) (hx:fr.ev x=some (.pointer (some ⟨pb p,i.toNat*sz,none⟩))) (hy:fr.ev y=some val) (B:val.cells=cs'.toArray) (d:r.jJ G cs' z') (hi:0<=i/\xs[i.toNat]? = some z)
  (k:∀ C,Η r e G (.slice p n cap) (xs.set i.toNat z') C->WL P N ops Q l fr (St w0 G0 G ((key,C)::L))):WL P N ops Q (⟨none,.store t x y,ty,pos,af,g⟩::l) fr (St w0 G0 G L):=by
 cases tk with
 | none=>obtain⟨rfl,_⟩:=h; simp at hi
 | some q=>
  obtain⟨O,cs,rest,h1,R,S,E,h5,h6,h7⟩:=h
  cases h1
  obtain⟨qb,qo,qm⟩:=q
  dsimp only at R S
  subst R S
  have A:=(Ć.1 hi.2).1
  have H:xs=xs.take i.toNat++(xs[i.toNat]::xs.drop (i.toNat+1)):=by simp
  have u:=E.len
  rw[H] at E
  obtain⟨c,d1,Y,W,k2⟩:=E.split
  obtain⟨D,d2,Z,k3,k4⟩:=k2
  have X:=W.len
  have l2:=r.len k3
  have K:=r.len d
  have I:(xs.take i.toNat).length=i.toNat:=by simp; omega
  rw[I] at X
  have m:Ã r G (c++(cs'++d2)) (xs.set i.toNat z'):=by
   rw[List.set_eq_take_append_cons_drop,Ă A]
   exact W.append ⟨cs',d2,rfl,d,k4⟩
  have j:((cs++rest).take (i.toNat*sz)++cs'++(cs++rest).drop (i.toNat*sz+sz))=(c++(cs'++d2))++rest:=by
   subst Y Z
   rw[f,<- X]
   have t1:(c++(D++d2)++rest).take c.length=c:=by rw[ď]; exact abI
   have t2:(c++(D++d2)++rest).drop (c.length+r.size)=d2++rest:=by
    rw[<- l2]
    have:c++(D++d2)++rest=(c++D)++(d2++rest):=by simp only[ď]
    rw[this,<- ā]
    exact abJ
   rw[t1,t2]
   simp only[ď]
  have J:fr.ev x=some (.pointer (some ⟨qb,i.toNat*sz,none⟩)):=hx
  refine WL.FV (S':=St w0 G0 G ((key,some ⟨qb,.cells ((c++(cs'++d2))++rest).toArray e (0,0),0⟩)::L)) hg (λa w T V=>?_) (k _ ?_)
  .have U:=(V.loc key _ v).1
   have s:=abi P qb (i.toNat*sz) e cs' 0 (cs++rest).toArray w U (by
    simp only[ĥ]
    rw[ā,u,K,<- f]
    have:(i.toNat+1)*sz<=xs.length*sz:=ga _ A
    rw[ŋ] at this
    omega) (r.one d)
   simp only[ŷ] at s
   rw[K,<- f] at s
   rw[j] at s
   refine⟨w.setRow qb ((c++(cs'++d2))++rest).toArray,?_,V.sJ v ?_ (č _) (λk _ F _=>absurd F (ō k)) (λk F=>?_) rfl rfl rfl rfl (by simp[World.setRow])⟩
   .simp[execOp,T.ev J,T.ev hy,Instr.storeAt,Instr.sureAddr,storeVar,B,run_sizeOf ht,K,f,s]
    rw[f] at s
    simp[s]
   .simp[World.setRow,ħ,U]
   simp only[World.setRow,ħ]
   rw[Ā (λe=>F e.symm)]
  refine⟨cap,c++(cs'++d2),rest,by simp,rfl,rfl,m,?_,h6,by simpa using h7⟩
  rw[ā,m.len,Ũ,<- h5,ā,u]
theorem Nt{t:TypeId}{z:Value}{bytes m c:Nat}{xs ys:Ŀ α}{v:Value}{p:ŀ Addr}{id:Nat}{tk:ŀ Ow}(ty:TypeId)(B:P.underlying t=some (.slice e))(hE:mP P e z r.size bytes)(al:z.cells.size=r.size)(ad:bytes<=100000)
  (f:Η r e G v xs tk) (E:L.get id=tk) (hx:ë r G (.slice p m c) ys) (ah:(xs++ys).length<=small)
  (w:World) (V:St w0 G0 G L w) :
  ∃ v' A w',(Builtin.append_ #[t,t] ty #[v,.slice p m c]).run P w = .ok v' w'/\Η r e G v' (xs++ys) A/\St w0 G0 G ((id,A)::L) w':=by
 obtain⟨i,hi,hz,y,ac⟩:=hE.parts
 obtain⟨px,am,d,Y,an,ai,aj,C,H⟩:=hx
 simp only[Value.slice.injEq] at Y
 obtain⟨rfl,rfl,rfl⟩:=Y
 have R:=C.len
 simp only[ā,small] at ah
 have F:xs.length+ys.length<=maxLen:=by simp only[maxLen]; omega
 have ab:(xs.length+ys.length)*bytes<=140737488355328:=by
  have:(xs.length+ys.length)*bytes<=1000000000*100000:=aa6 (by omega) ad
  omega
 by_cases hm:ys.length=0
 .have hy:ys=[]:=ő hm
  subst hy
  simp only[ř,ğ] at *
  refine⟨v,tk,w,?_,f,V.weaken (Lo.Ze E (Lo.tg _))⟩
  cases tk with
  | none=>
   obtain⟨rfl,q,rfl,_⟩:=f
   cases q with
   | none=>cases p with
    | none=>simp[Builtin.append_,đ B,sizeOf,typeInfo,hi,Builtin.lenOf,Builtin.firstCells]
    | some a=>simp[Builtin.append_,đ B,sizeOf,typeInfo,hi,Builtin.lenOf,Builtin.firstCells,loadCells,loadCellsFrom]
   | some a'=>cases p with
    | none=>simp[Builtin.append_,đ B,sizeOf,typeInfo,hi,Builtin.lenOf,Builtin.firstCells,storeCells]
    | some a=>simp[Builtin.append_,đ B,sizeOf,typeInfo,hi,Builtin.lenOf,Builtin.firstCells,storeCells,loadCells,loadCellsFrom]
  | some q=>
   obtain⟨cap,cs,rest,rfl,_,_,_,_,_,N⟩:=f
   cases p with
   | none=>simp[Builtin.append_,đ B,sizeOf,typeInfo,hi,Builtin.lenOf,Builtin.firstCells,N,storeCells]
   | some a=>simp[Builtin.append_,đ B,sizeOf,typeInfo,hi,Builtin.lenOf,Builtin.firstCells,N,storeCells,loadCells,loadCellsFrom]
 have hp:=aj (by omega)
 obtain⟨pa,ae⟩:=ū.1 hp
 subst ae
 obtain⟨Z,so,ss⟩:=pa
 have X:=ai _ rfl (by omega)
 dsimp only at X
 subst X
 have H:∀ j u,d[j]? = some u->G Z (so+j)=some u:=H
 have s:∀ j u,d[j]? = some u->w.cell? ((⟨Z,so,none⟩:Addr).add j)=some u:=λj u I=>by rw[rD]; exact V.ls _ _ _ (H j u I)
 have D:=C.one
 have n:d.length=ys.length*i.size:=by rw[y]; exact R
 have grow:∀ (pv:ŀ Addr) (cap:Nat) (cs:Ŀ Value),Ã r G cs xs->(Builtin.firstCells i.size xs.length (.slice pv xs.length cap)).run P w.drew = .ok cs.toArray w.drew->cap<xs.length+ys.length->
   ∃ v' A w',(Builtin.append_ #[t,t] ty #[.slice pv xs.length cap,.slice (some ⟨Z,so,none⟩) ys.length c]).run P w = .ok v' w'/\Η r e G v' (xs++ys) A/\St w0 G0 G ((id,A)::L) w':=by
  intro pv cap cs K T hg
  have J:=grownCap_ge w (xs.length+ys.length) cap e
  have S:=aa8 w (xs.length+ys.length) cap e F
  have W:=Src.ofSlice (P:=P) w (size:=i.size) B ⟨Z,so,none⟩ ys.length c d n s D
  have U:=run_append_grow_src (P:=P) w t t ty e i z B hi hz pv xs.length cap cs T _ ys.length d W hg (by omega) (growslice_fits hg (by rw[ac]; exact ab))
  have ag:St w0 G0 G L w.drew:=V.drew
  have h3:=ag.push id (.cells ((cs++d).toArray++Builtin.zeroCells z.cells (grownCap w (xs.length+ys.length) cap e-(xs.length+ys.length))) e)
  have O:(cs++d).length=(xs.length+ys.length)*r.size:=by rw[ā,K.len,R,ŋ]
  refine⟨_,some ⟨w.drew.heap.size,.cells ((cs++d).toArray++Builtin.zeroCells z.cells (grownCap w (xs.length+ys.length) cap e-(xs.length+ys.length))) e (0,0),0⟩,_,U,?_,h3⟩
  refine⟨grownCap w (xs.length+ys.length) cap e,cs++d,(Builtin.zeroCells z.cells (grownCap w (xs.length+ys.length) cap e-(xs.length+ys.length))).toList,by rw[ā]; rfl,?_,rfl,K.append C,?_,S,by rw[ā]; exact J⟩
  .dsimp only
   congr 1
   apply fj
   simp
  have ak:(Builtin.zeroCells z.cells (grownCap w (xs.length+ys.length) cap e-(xs.length+ys.length))).toList.length=(grownCap w (xs.length+ys.length) cap e-(xs.length+ys.length))*r.size:=by
   rw[Ĭ (xs:=Builtin.zeroCells z.cells _),aa7,al]
  rw[ā,O,ak,<- ŋ]
  congr 1; omega
 cases tk with
 | none=>
  obtain⟨rfl,q,rfl,hq⟩:=f
  refine grow q 0 [] rfl ?_ (by simp; omega)
  cases q with
  | none=>exact aaW _ _ _ _ _
  | some a=>exact aao _ _ _ _ _ _ _ (by simp) (λj u I=>by simp at I)
 | some q=>
  obtain⟨cap,cs,rest,rfl,h2,h3,h4,h5,h6,h7⟩:=f
  obtain⟨qb,qo,qm⟩:=q
  dsimp only at h2 h3
  subst h2 h3
  have h:=(V.loc id _ E).1
  dsimp only at h
  have Q:=h4.len
  by_cases g:xs.length+ys.length<=cap
  .have l:xs.length*i.size+d.length<=(cs++rest).toArray.size:=by
    rw[ĥ,h5,n,y,<- ŋ]; exact ga _ g
   have U:=run_append_room (P:=P) w t ty e i B hi qb xs.length cap (cs++rest).toArray h ⟨Z,so,none⟩ ys.length c d n s D g l
   rw[y,<- Q] at U
   have e1:(cs++rest).toArray.toList.take cs.length=cs:=by simp
   have e2:(cs++rest).toArray.toList.drop (cs.length+d.length)=rest.drop d.length:=by simp
   rw[e1,e2] at U
   refine⟨_,some ⟨qb,.cells ((cs++d)++rest.drop d.length).toArray e (0,0),0⟩,_,U,?_,V.sJ E (by simp[World.setRow,ħ,h]) (č _) (λk _ hk _=>absurd hk (ō k)) (λk hk=>?_) rfl rfl rfl rfl (by simp[World.setRow])⟩
   .refine⟨cap,cs++d,rest.drop d.length,by rw[ā],rfl,rfl,h4.append C,?_,h6,by rw[ā]; exact g⟩
    rw[y] at l n
    simp only[ĥ] at l
    rw[ā] at h5 l
    simp only[ā,Ž]
    omega
   simp only[World.setRow,ħ]
   rw[Ā (λe=>hk e.symm)]
  refine grow _ cap cs h4 (aao _ _ _ _ _ _ _ (by rw[Q,y]) (λj u I=>?_)) (by omega)
  rw[rD]
  have aa:w.drew.heap[qb]? = some (.cells (cs++rest).toArray e (0,0)):=h
  rw[ŧ w.drew qb (0+j) _ e (0,0) aa,ļ,ę,ĕ (Ć.1 I).1]
  exact I
theorem WL.lQ{t:TypeId}{z:Value}{s x:Operand}{bytes m c:Nat}{v:Value}{xs ys:Ŀ α}{p:ŀ Addr}{tk:ŀ Ow}(id:Nat)(E:κ ops fr ⟨dst,.call ⟨.builtin .append,#[s,x],#[t,t]⟩,ty,pos,af,g⟩ true)(D:è N dst)
  (I:P.underlying t=some (.slice e)) (C:mP P e z r.size bytes) (A:z.cells.size=r.size) (n:bytes<=100000) (H:fr.ev s=some v) (K:fr.ev x=some (.slice p m c)) (J:Η r e G v xs tk) (q:L.get id=tk)
  (O:ë r G (.slice p m c) ys) (y:(xs++ys).length<=small)
  (k:∀ p' f d,Η r e G (.slice p' (xs++ys).length f) (xs++ys) d->WL P N ops Q l (ξ dst (.slice p' (xs++ys).length f) fr) (St w0 G0 G ((id,d)::L))) :
  WL P N ops Q (⟨dst,.call ⟨.builtin .append,#[s,x],#[t,t]⟩,ty,pos,af,g⟩::l) fr (St w0 G0 G L):=by
 refine WL.yr (Φ:=λB w=>∃ d,Η r e G B (xs++ys) d/\St w0 G0 G ((id,d)::L) w) E (λa w i u=>?_) D (λv a w i ⟨d,h,j⟩=>?_)
 .obtain⟨B,d,w',F,h,j⟩:=Nt (w0:=w0) (G0:=G0) ty I C A n J q O y w u
  have:(execOp a.eval ⟨dst,.call ⟨.builtin .append,#[s,x],#[t,t]⟩,ty,pos,af,g⟩).run P w = .ok (.value B) w':=by
   simp[execOp,resolve,invoke,builtin,i.ev H,i.ev K,F]
  rw[this]
  exact⟨d,h,j⟩
 obtain⟨p',f,rfl⟩:=h.form
 exact k p' f d h a w i j
end
theorem Hp.empty(w:World):Hp (λ_ _=>none) [] w:=⟨(by intro _ _ _ h; cases h),(by intro _ _ h; simp[Lo.get] at h),(by intro _ _ _ _ _ h; simp[Lo.get] at h)⟩
section
variable {P:Program}{N:Nat}{Q:õ}{fr:Fr}{S:Υ}{ops:Array Oper}{l:Ŀ Oper}{dst:ŀ Nat}{ty:TypeId}{pos:String}{af:Array Edge}{g:ŀ (Nat×Bool)}
variable {w0:Bs}{G0 G:Mem}{L:Lo}{α:Type}{r:Rp α}{e:TypeId}
theorem Lo.Ih:∀ {a:Lo}{i:Nat}{x:Ow},a.get i=some x->i ∈ a.map (·.1)
 | [],i,x,h=>by simp[Lo.get] at h
 | p::a,i,x,h=>by
  obtain⟨k,q⟩:=p
  rw[Lo.Zn] at h
  split at h
  .rename_i e; simp[e]
  have:=Lo.Ih h; simp only[ė,ą]; exact .inr this
def Lo.zero(L:Lo):Prop:=∀ p ∈ L,∀ x,p.2=some x->x.m=0
theorem Lo.BD:∀ {L:Lo}{i:Nat}{x:Ow},L.zero->L.get i=some x->x.m=0
 | [],i,x,_,h=>by simp[Lo.get] at h
 | p::L,i,x,a,h=>by
  obtain⟨k,q⟩:=p
  rw[Lo.Zn] at h
  split at h
  .exact a (k,q) (by simp) x h
  exact Lo.BD (L:=L) (λp hp=>a p (by simp[hp])) h
theorem YC.LI{o:Oper}{f:FuncId}{args c:Array Value}{j:Lo}{l:Mem->Prop}{post:Mem->Value->Prop}(h:YC P N o fr (St w0 G0 G L) f c)(F:ò P f args j l (λG L' v=>L'=j/\post G v))(e:c=args)(hp:l G)
  (q:Lo.sub j L) (d:∀ i,i ∈ j.map (·.1)->j.get i=L.get i) (A:w0.L.zero) :
  YR P N o fr (St w0 G0 G L) (λv w'=>∃ G',Mem.le G G'/\St w0 G0 G' L w'/\post G' v):=λa w t n=>by
 rw[h a w t n]
 subst e
 refine (F w G (n.hp q) hp).mono λe' w' ⟨r,G',L',C,s,D,E⟩=>⟨r,C,G',s.le,?_,E⟩
 subst D
 refine n.ext (R:=L.É (L'.map (·.1))) s q (λi x g=>(Lo.Bg g).1) (λi x g=>?_) (λi x y hi _ z p=>?_) (λi x g=>?_)
 .cases u:L'.get i with
  | none=>rfl
  | some y=>exact absurd (Lo.Ih u) (Lo.Bg g).2
 .rw[Lo.BD A p]; exact ġ _
 by_cases hi:i ∈ L'.map (·.1)
 .left; rw[d i hi]; exact g
 right
 have:∀ (ks:Ŀ Nat),i ∉ ks->(L.É ks).get i=L.get i:=by
  intro ks
  induction ks with
  | nil=>intro _; rfl
  | cons k ks B=>
   intro m
   simp only[ą,not_or] at m
   simp only[Lo.É,ė,Ħ]
   rw[Lo.Zn,Ā (λe=>m.1 e.symm)]
   exact B m.2
 rw[this _ hi]; exact g
theorem WL.ym{op:Op}{f:FuncId}{args c:Array Value}{j:Lo}{m:Mem->Prop}{post:Mem->Value->Prop}(r:κ ops fr ⟨dst,op,ty,pos,af,g⟩ true)(q:è N dst)(h:YC P N ⟨dst,op,ty,pos,af,g⟩ fr (St w0 G0 G L) f c)
  (A:ò P f args j m (λG L' v=>L'=j/\post G v)) (e:c=args) (hp:m G) (n:Lo.sub j L) (d:∀ i,i ∈ j.map (·.1)->j.get i=L.get i) (s:w0.L.zero)
  (k:∀ v G',Mem.le G G'->post G' v->WL P N ops Q l (ξ dst v fr) (St w0 G0 G' L)):WL P N ops Q (⟨dst,op,ty,pos,af,g⟩::l) fr (St w0 G0 G L):=
 WL.yr r (h.LI A e hp n d s) q (λv a w p ⟨G',t,u,y⟩=>k v G' t y a w p u)
theorem WL.lW{op:Op}{f:FuncId}{args c:Array Value}{d:Lo}{m:Mem->Prop}{post:Mem->Lo->Value->Prop}(q:κ ops fr ⟨dst,op,ty,pos,af,g⟩ true)(C:è N dst)(h:YC P N ⟨dst,op,ty,pos,af,g⟩ fr (St w0 G0 G L) f c)
  (E:ò P f args d m post) (e:c=args) (hp:m G) (B:Lo.sub d L) (D:w0.L.zero)
  (k:∀ v G' L',Mem.le G G'->post G' L' v->WL P N ops Q l (ξ dst v fr) (St w0 G0 G' (L'++L.É (d.map (·.1))))):WL P N ops Q (⟨dst,op,ty,pos,af,g⟩::l) fr (St w0 G0 G L):=by
 refine WL.yr (Φ:=λv w'=>∃ G' L',Mem.le G G'/\St w0 G0 G' (L'++L.É (d.map (·.1))) w'/\post G' L' v) q (λa w p s=>?_) C (λv a w p ⟨G',L',u,n,A⟩=>k v G' L' u A a w p n)
 rw[h a w p s]
 subst e
 refine (E w G (s.hp B) hp).mono λe' w' ⟨r,G',L',u,n,A⟩=>⟨r,u,G',L',n.le,s.ext (R:=L.É (d.map (·.1))) n B (λi x j=>(Lo.Bg j).1) (λi x j=>?_) (λi x y hi _ z t=>?_) (λi x j=>Lo.get_append _ _ i x j),A⟩
 .cases q:d.get i with
  | none=>rfl
  | some y=>exact absurd (Lo.Ih q) (Lo.Bg j).2
 rw[Lo.BD D t]; exact ġ _
theorem Η.zero{v:Value}{xs:Ŀ α}{tk:ŀ Ow}{x:Ow}(h:Η r e G v xs tk)(a:tk=some x):x.m=0:=by
 subst a
 obtain⟨_,_,_,_,_,h,_⟩:=h
 exact h
theorem ë.eqv{p:ŀ Addr}{n cap:Nat}{xs:Ŀ α}(h:ë r G (.slice p n cap) xs):Value.slice p n cap = .slice p xs.length cap:=by
 obtain⟨p',a,cs,c,_⟩:=h
 cases c; rfl
theorem ë.SG{p:ŀ Addr}{n cap:Nat}{xs:Ŀ α}(h:ë r G (.slice p n cap) xs):ë r G (.slice p xs.length cap) xs:=by rw[<- h.eqv]; exact h
theorem Η.eqv{p:ŀ Addr}{n cap:Nat}{xs:Ŀ α}{tk:ŀ Ow}(h:Η r e G (.slice p n cap) xs tk):Value.slice p n cap = .slice p xs.length cap:=by
 obtain⟨p',a,c⟩:=h.form
 cases c; rfl
theorem WL.CD{t:TypeId}{len:Nat}{parts:Array (Nat×Operand)}{vs:Array (Nat×Value)}{cs:Ŀ Value}(xs:Ŀ α)(key:Nat)(D:κ ops fr ⟨dst,.buildSlice t len parts,ty,pos,af,g⟩ true)(C:è N dst)
  (m:fr.nX (parts.toList.map (·.2))=some (vs.toList.map (·.2))) (c:parts.toList.map (·.1)=vs.toList.map (·.1)) (d:xs.length=len) (F:len<=small)
  (h:∀ w,(Instr.buildSlice t len vs).run P w = .ok (.slice (some ⟨w.heap.size,0,none⟩) len len) (w.alloc (.cells cs.toArray e))) (f:Ã r G cs xs)
  (k:∀ p tk,Η r e G (.slice p len len) xs tk->WL P N ops Q l (ξ dst (.slice p len len) fr) (St w0 G0 G ((key,tk)::L))):WL P N ops Q (⟨dst,.buildSlice t len parts,ty,pos,af,g⟩::l) fr (St w0 G0 G L):=by
 refine WL.yr (Φ:=λv w=>∃ p tk,v = .slice p len len/\Η r e G (.slice p len len) xs tk/\St w0 G0 G ((key,tk)::L) w) D (λa w y E=>?_) C (λv a w y ⟨p,tk,j,s,u⟩=>by subst j; exact k p tk s a w y u)
 have j:=y.nX _ _ m
 have s:(parts.map λp=>(p.1,a.eval p.2))=vs:=by
  apply fj
  simp only[aaP]
  have B:parts.toList.length=vs.toList.length:=by have:=ć List.length c; simpa using this
  generalize parts.toList=ps at *
  generalize vs.toList=n at *
  clear h m
  induction ps generalizing n with
  | nil=>cases n <;> simp_all
  | cons p ps H=>
   cases n with
   | nil=>simp at B
   | cons q n=>
    simp only[ė,fv] at c j ⊢
    exact⟨abR c.1 j.1,H n c.2 j.2 (by simpa using B)⟩
 have u:(parts.map λ(i,x)=>(i,a.eval x))=vs:=s
 have:(execOp a.eval ⟨dst,.buildSlice t len parts,ty,pos,af,g⟩).run P w = .ok (.value (.slice (some ⟨w.heap.size,0,none⟩) len len)) (w.alloc (.cells cs.toArray e)):=by
  simp only[execOp,u]
  simp[h w]
 rw[this]
 have A:=f.len
 refine⟨_,some ⟨w.heap.size,.cells cs.toArray e (0,0),0⟩,rfl,⟨len,cs,[],by rw[d],by simp,rfl,f,by simp[A,d],by simp only[small,maxLen] at *; omega,by omega⟩,E.push key (.cells cs.toArray e)⟩
theorem η.rJ{Bt:Υ}{fs:Ŀ Bool}{l:Ŀ Oper}{Χ:Fr}{Ω:mK}{d:Nat}{op:Op}{f:FuncId}{args a:Array Value}{j:Mem->Prop}{post:Mem->Value->Prop}(n:∀ u,κ ops (ψ Ω u++(Χ++fr)) ⟨some d,op,ty,pos,af,g⟩ true)(h:∀ u S,YC P N ⟨some d,op,ty,pos,af,g⟩ (ψ Ω u++(Χ++fr)) S f a)(q:ä P f args j post)(e:a=args)
  (hp:∀ G',Mem.le G G'->j G') (p:∀ v c i,Mem.le c i->post c v->post i v) (k:η P N Q fr w0 G0 G L ops Bt fs l Χ ((d,λv g=>post g.m v)::Ω)):η P N Q fr w0 G0 G L ops Bt (false::fs) (⟨some d,op,ty,pos,af,g⟩::l) Χ Ω:=
 η.q6 d _ rfl (λv _ _ h=>p v _ _ h.1) (λu G' m _=>jR.call (n u) (h u _) q e (hp G'.m m.1)) k
theorem η.Dc{Bt:Υ}{fs:Ŀ Bool}{l:Ŀ Oper}{Χ:Fr}{Ω:mK}{o:Oper}{c:Value}(d:∀ u,κ ops (ψ Ω u++(Χ++fr)) o true)(h:∀ u G',Mem.le G G'->Y0 P N o (ψ Ω u++(Χ++fr)) (St w0 G0 G' L) c)(k:η P N Q fr w0 G0 G L ops Bt fs l (ξ o.dst c Χ) Ω):
  η P N Q fr w0 G0 G L ops Bt (false::fs) (o::l) Χ Ω:=.inl ⟨c,λu G' a _=>jR.y0 (d u) (h u G'.m a.1),k⟩
theorem η.CV{Bt:Υ}{fs:Ŀ Bool}{l:Ŀ Oper}{Χ:Fr}{Ω:mK}{o:Oper}(a:∀ u,κ ops (ψ Ω u++(Χ++fr)) o false)(k:η P N Q fr w0 G0 G L ops Bt fs l (ξ o.dst undef Χ) Ω):η P N Q fr w0 G0 G L ops Bt (false::fs) (o::l) Χ Ω:=.inl ⟨undef,λu _ _ _=>jR.skip (a u),k⟩
theorem η.wB{Bt:Υ}{fs:Ŀ Bool}{l:Ŀ Oper}{Χ:Fr}{Ω:mK}{o:Oper}{f:FuncId}{c:Value}(n:∀ u,κ ops (ψ Ω u++(Χ++fr)) o true)
  (h:∀ u (G':Gx),Mem.le G G'.m->ô ops o Ω u G'->∃ args a d,(∀ S,YC P N o (ψ Ω u++(Χ++fr)) S f a)/\ä P f args d (λ_ r=>r=c)/\a=args/\d G'.m) (k:η P N Q fr w0 G0 G L ops Bt fs l (ξ o.dst c Χ) Ω) :
  η P N Q fr w0 G0 G L ops Bt (false::fs) (o::l) Χ Ω:=.inl ⟨c,λu G' e p=>by
   obtain⟨args,a,d,g,i,j,m⟩:=h u G' e.1 p
   exact jR.nf (n u) (g _) i j m,k⟩
theorem η.yR{l:Ŀ Oper}{Χ:Fr}{d:Nat}{post:Mem->Value->Prop}(k:∀ v G',Mem.le G G'->post G' v->WL P N ops (NX Q) l ((d,v)::(Χ++fr)) (St w0 G0 G' L)):η P N Q fr w0 G0 G L ops (λ_=>True) [] l Χ [(d,λv g=>post g.m v)]:=λu g c h=>jc.of λa w e f=>
 k (u d) g.m c.1 h.1 a w e f.st
theorem η.rp{l:Ŀ Oper}{Χ:Fr}{d d':Nat}{post post':Mem->Value->Prop}(k:∀ v f G',Mem.le G G'->post G' v->post' G' f->WL P N ops (NX Q) l ((d,v)::(d',f)::(Χ++fr)) (St w0 G0 G' L)):η P N Q fr w0 G0 G L ops (λ_=>True) [] l Χ [(d,λv g=>post g.m v),(d',λv g=>post' g.m v)]:=λu g c e=>jc.of λa w h i=>
 k (u d) (u d') g.m c.1 e.1 e.2.1 a w h i.st
theorem η.qk{l:Ŀ Oper}{Χ:Fr}{d d' d'':Nat}{post post' post'':Mem->Value->Prop}(k:∀ v h c G',Mem.le G G'->post G' v->post' G' h->post'' G' c->WL P N ops (NX Q) l ((d,v)::(d',h)::(d'',c)::(Χ++fr)) (St w0 G0 G' L)):η P N Q fr w0 G0 G L ops (λ_=>True) [] l Χ [(d,λv g=>post g.m v),(d',λv g=>post' g.m v),(d'',λv g=>post'' g.m v)]:=λu g e f=>jc.of λa w i j=>
 k (u d) (u d') (u d'') g.m e.1 f.1 f.2.1 f.2.2.1 a w i j.st
end
section
variable {α:Type}{enc:α->Ŀ Value}{sz:Nat}
theorem A0(a:∀ x,(enc x).length=sz)(l:Ŀ α):(l.flatMap enc).length=l.length*sz:=by
 induction l with
 | nil=>simp
 | cons x l c=>simp only[gj,ā,a,c,Ġ,ŋ]; omega
theorem XU(a:∀ x,(enc x).length=sz)(l:Ŀ α)(i:Nat)(hi:i<l.length)(j:Nat)(c:j<sz):(l.flatMap enc)[i*sz+j]? = (enc l[i])[j]?:=by
 induction l generalizing i with
 | nil=>simp at hi
 | cons x l d=>
  cases i with
  | zero=>simp only[fT,ļ,gj,List.getElem_cons_zero]; rw[ĕ (by rw[a]; exact c)]
  | succ i=>
   simp only[gj,List.getElem_cons_succ]
   rw[Ī (by rw[a,ŋ]; omega),a,show (i+1)*sz+j-sz=i*sz+j by rw[ŋ]; omega]
   exact d i (by simpa using hi)
theorem NC[Inhabited α](d:∀ x,(enc x).length=sz)(h:0<sz)(l:Ŀ α):Go.Sort.flatK enc sz l.toArray=(l.flatMap enc).toArray:=by
 apply Array.ext
 .simp only[Go.Sort.size_flatK,ĥ,A0 d]
 intro i a n
 simp only[Go.Sort.size_flatK,ĥ] at a
 have hi:i / sz<l.length:=by rw[Nat.div_lt_iff_lt_mul h]; exact a
 have f:i % sz<sz:=abP _ h
 have c:=XU d l (i / sz) hi (i % sz) f
 rw[show i / sz*sz+i % sz=i by rw[aaE]; exact aby i sz] at c
 have j:=Go.Sort.get_flatK enc sz l.toArray i (by simpa using a)
 rw[š _ i (by simpa using a)] at j
 rw[j]
 have m:l.toArray[i / sz]! = l[i / sz]:=by rw[š _ _ (by simpa using hi)]; simp
 rw[m,š _ _ (by rw[d]; exact f)]
 have e:i<(l.flatMap enc).length:=by simpa using n
 have g:i % sz<(enc l[i / sz]).length:=by rw[d]; exact f
 rw[Ą e,Ą g] at c
 simp only[Ď] at c
 simpa using c.symm
end
theorem Od{w w':World}(a:w'.os=w.os)(c:w'.tape=w.tape)(d:w'.output=w.output)(g:w.drawn<=w'.drawn)(h:w.heap.size<=w'.heap.size)(e:∀ k,k<w.heap.size->w'.heap[k]? = w.heap[k]?):
  ∃ q os,w'=Go.Sort.grow (w.drewN q) os:=by
 refine⟨w'.drawn-w.drawn,w'.heap.extract w.heap.size w'.heap.size,?_⟩
 obtain⟨hp,l,i,o,j⟩:=w'
 simp only at a c d g h e
 subst a c d
 simp only[Go.Sort.grow,World.drewN]
 congr 1
 .apply aab
  intro k
  rw[Array.getElem?_append]
  split
  .rename_i f; exact e k f
  rename_i f
  rw[Array.getElem?_extract]
  split
  .congr 1; omega
  rw[Array.getElem?_eq_none]; omega
 omega
variable {P:Program}{ρ:Go.Shelf.Ren}
open Go.MapKept
structure Ky (P:Program) (kt:TypeId) (K:Type) where
 enc:K->Value
 ok:K->Prop
 inj:∀ {x y},enc x=enc y->x=y
 lit:∀ {x},ok x->∃ l,keyOf P kt (enc x)=some l
 keyed:Go.Maps.Keyed P kt
section
variable {K V:Type} [DecidableEq K]
def Ñ:Ŀ (K×V)->K->V->Ŀ (K×V)
 | [],k,x=>[(k,x)]
 | p::D,k,x=>if p.1=k then (k,x)::D else p::Ñ D k x
def Å:Ŀ (K×V)->K->ŀ V
 | [],_=>none
 | p::D,k=>if p.1=k then some p.2 else Å D k
theorem tf:∀ {D:Ŀ (K×V)}{k:K}{x:V},(∀ p ∈ D,p.1≠k)->Ñ D k x=D++[(k,x)]
 | [],_,_,_=>rfl
 | p::D,k,x,h=>by
  simp only[Ñ,Ā (h p (by simp)),Ħ]
  rw[tf (λq a=>h q (by simp[a]))]
theorem zF:∀ {D:Ŀ (K×V)}{k:K},(∀ p ∈ D,p.1≠k)->Å D k=none
 | [],_,_=>rfl
 | p::D,k,h=>by
  simp only[Å,Ā (h p (by simp))]
  exact zF (λq a=>h q (by simp[a]))
end
section
variable {K V:Type}
def ib(enc:K->Value)(Rv:K->Value->V->Prop):Ŀ MapEntry->Ŀ (K×V)->Prop
 | [],[]=>True
 | a::es,p::D=>a.key=enc p.1/\Rv p.1 a.val p.2/\ib enc Rv es D
 | _,_=>False
variable {enc:K->Value}{Rv Rv':K->Value->V->Prop}
theorem ib.length:∀ {es:Ŀ MapEntry}{D:Ŀ (K×V)},ib enc Rv es D->es.length=D.length
 | [],[],_=>rfl
 | _::_,_::_,h=>by simp only[Ġ]; rw[ib.length h.2.2]
 | [],_::_,h=>by cases h
 | _::_,[],h=>by cases h
theorem ib.imp:∀ {es:Ŀ MapEntry}{D:Ŀ (K×V)},ib enc Rv es D->(∀ p ∈ D,∀ v,Rv p.1 v p.2->Rv' p.1 v p.2)->ib enc Rv' es D
 | [],[],_,_=>trivial
 | _::_,p::_,h,hi=>⟨h.1,hi p (by simp) _ h.2.1,ib.imp h.2.2 (λq a=>hi q (by simp[a]))⟩
 | [],_::_,h,_=>by cases h
 | _::_,[],h,_=>by cases h
theorem ib.key:∀ {es:Ŀ MapEntry}{D:Ŀ (K×V)},ib enc Rv es D->∀ c ∈ es,∃ p ∈ D,c.key=enc p.1/\Rv p.1 c.val p.2
 | [],[],_,c,h=>by cases h
 | e::_,p::_,h,c,a=>by
  rcases ą.1 a with rfl|a
  .exact⟨p,by simp,h.1,h.2.1⟩
  obtain⟨q,d,r⟩:=ib.key h.2.2 c a
  exact⟨q,by simp[d],r⟩
 | [],_::_,h,_,_=>by cases h
 | _::_,[],h,_,_=>by cases h
theorem ib.mem:∀ {es:Ŀ MapEntry}{D:Ŀ (K×V)},ib enc Rv es D->∀ p ∈ D,∃ a ∈ es,a.key=enc p.1
 | [],[],_,p,h=>by cases h
 | e::_,q::_,h,p,hp=>by
  rcases ą.1 hp with rfl|hp
  .exact⟨e,by simp,h.1⟩
  obtain⟨a,c,r⟩:=ib.mem h.2.2 p hp
  exact⟨a,by simp[c],r⟩
 | [],_::_,h,_,_=>by cases h
 | _::_,[],h,_,_=>by cases h
theorem ib.push:∀ {es:Ŀ MapEntry}{D:Ŀ (K×V)}{a:MapEntry}{k:K}{x:V},ib enc Rv es D->a.key=enc k->Rv k a.val x->ib enc Rv (es++[a]) (D++[(k,x)])
 | [],[],_,_,_,_,c,d=>⟨c,d,trivial⟩
 | _::_,_::_,_,_,_,h,c,d=>⟨h.1,h.2.1,ib.push h.2.2 c d⟩
 | [],_::_,_,_,_,h,_,_=>by cases h
 | _::_,[],_,_,_,h,_,_=>by cases h
theorem ib.set[DecidableEq K](d:∀ {x y},enc x=enc y->x=y){k:K}{val:Value}{x:V}(s:Rv' k val x):∀ {es:Ŀ MapEntry}{D:Ŀ (K×V)}{j:Nat}{f:MapEntry},ib enc Rv es D->es.Pairwise (λa b=>a.key≠b.key)->
  es[j]? = some f->f.key=enc k->(∀ p ∈ D,p.1≠k->∀ v,Rv p.1 v p.2->Rv' p.1 v p.2)->ib enc Rv' (es.set j { f with key:=enc k,val:=val }) (Ñ D k x)
 | [],_,j,f,_,_,h,_,_=>by simp at h
 | e::es,[],_,_,h,_,_,_,_=>by cases h
 | e::es,p::D,0,f,h,hp,g,i,hi=>by
  simp only[į,Ď] at g
  subst g
  have c:p.1=k:=d (h.1.symm.trans i)
  simp only[Ñ,Ă c,aa9]
  refine⟨rfl,s,h.2.2.imp λq l v r=>hi q (by simp[l]) (λe'=>?_) v r⟩
  obtain⟨t,n,m⟩:=ib.mem h.2.2 q l
  exact (Ğ.1 hp).1 t n (by rw[i,m,e'])
 | e::es,p::D,j+1,f,h,hp,g,i,hi=>by
  simp only[ĭ] at g
  have c:p.1≠k:=λe'=>(Ğ.1 hp).1 f (Ł g) (by rw[i,h.1,e'])
  simp only[Ñ,Ā c,List.set_cons_succ]
  exact⟨h.1,hi p (by simp) c _ h.2.1,ib.set d s h.2.2 (Ğ.1 hp).2 g i (λq l=>hi q (by simp[l]))⟩
theorem ib.get[DecidableEq K](d:∀ {x y},enc x=enc y->x=y){k:K}:∀ {es:Ŀ MapEntry}{D:Ŀ (K×V)}{j:Nat}{f:MapEntry},ib enc Rv es D->es.Pairwise (λa b=>a.key≠b.key)->
  es[j]? = some f->f.key=enc k->∃ x,Å D k=some x/\Rv k f.val x
 | [],_,j,f,_,_,h,_=>by simp at h
 | e::es,[],_,_,h,_,_,_=>by cases h
 | e::es,p::D,0,f,h,hp,g,i=>by
  simp only[į,Ď] at g
  subst g
  have c:p.1=k:=d (h.1.symm.trans i)
  refine⟨p.2,by simp[Å,c],?_⟩
  rw[<- c]; exact h.2.1
 | e::es,p::D,j+1,f,h,hp,g,i=>by
  simp only[ĭ] at g
  have c:p.1≠k:=λe'=>(Ğ.1 hp).1 f (Ł g) (by rw[i,h.1,e'])
  simp only[Å,Ā c]
  exact ib.get d h.2.2 (Ğ.1 hp).2 g i
end
section
variable {P:Program}{kt:TypeId}{K V:Type} [DecidableEq K]
def ü(ky:Ky P kt K)(Rv:K->Value->V->Prop)(v:Value)(D:Ŀ (K×V))(tk:ŀ Ow):Prop:=
 ∃ b es clock,v = .map (some b)/\tk=some ⟨b,.map es clock,0⟩/\Stamped es clock/\(∀ p ∈ D,ky.ok p.1)/\ib ky.enc Rv es.toList D/\D.length<=small
variable {ky:Ky P kt K}{Rv Rv':K->Value->V->Prop}
omit [DecidableEq K] in
theorem ü.imp{v:Value}{D:Ŀ (K×V)}{tk:ŀ Ow}(h:ü ky Rv v D tk)(hi:∀ p ∈ D,∀ v,Rv p.1 v p.2->Rv' p.1 v p.2):ü ky Rv' v D tk:=by
 obtain⟨b,es,clock,a,c,d,e,f,g⟩:=h
 exact⟨b,es,clock,a,c,d,e,f.imp hi,g⟩
omit [DecidableEq K] in
theorem ü.empty(b:Nat):ü ky Rv (.map (some b)) [] (some ⟨b,.map #[] 0,0⟩):=⟨b,#[],0,rfl,rfl,stamped_empty 0,by simp,trivial,by simp[small]⟩
omit [DecidableEq K] in
theorem ü.zero{v:Value}{D:Ŀ (K×V)}{tk:ŀ Ow}{x:Ow}(h:ü ky Rv v D tk)(a:tk=some x):x.m=0:=by
 obtain⟨b,es,clock,d,c,_⟩:=h
 rw[c] at a; cases a; rfl
variable {w0:Bs}{G0 G:Mem}{L:Lo}
theorem Zu1{t e:TypeId}(ht:P.underlying t=some (.map kt e)){v:Value}{D:Ŀ (K×V)}{tk:ŀ Ow}(h:ü ky Rv v D tk){key:Nat}(C:L.get key=tk){k:K}{val:Value}{x:V}(I:ky.ok k)(hv:Rv' k val x)(hi:∀ p ∈ D,p.1≠k->∀ v,Rv p.1 v p.2->Rv' p.1 v p.2)
  (E:(Ñ D k x).length<=small) (w:World) (hs:St w0 G0 G L w):∃ F w',(Instr.mapUpdate t v (ky.enc k) val).run P w = .ok () w'/\ü ky Rv' v (Ñ D k x) F/\St w0 G0 G ((key,F)::L) w':=by
 obtain⟨b,es,clock,rfl,rfl,O,Q,H,h6⟩:=h
 obtain⟨l,J⟩:=ky.lit I
 have A:=(hs.loc key _ C).1
 dsimp only at A
 have S:=(Ĉ.1 A).1
 have s:∀ B ∈ es.toList,∃ l,keyOf P kt B.key=some l:=λB g=>by
  obtain⟨p,hp,W,_⟩:=H.key B g
  rw[W]; exact ky.lit (Q p hp)
 have d:∀ o',St w0 G0 G ((key,some ⟨b,o',0⟩)::L) { w with heap:=w.heap.setIfInBounds b o' }:=λo'=>
  hs.sJ C (by simp[S]) (č _) (λk' _ n=>absurd n (ō k')) (λk' n=>by simp only[Š]; rw[Ā (λe'=>n e'.symm)]) rfl rfl rfl rfl (by simp)
 rcases ky.keyed.find w J es.toList s with ⟨N,y⟩|⟨j,Z,N,y,f⟩
 .have a:∀ p ∈ D,p.1≠k:=λp hp e'=>by
   obtain⟨B,g,T⟩:=H.mem p hp
   exact y B g (by rw[T,e'])
  refine⟨some ⟨b,.map (es.push ⟨ky.enc k,val,clock⟩) (clock+1),0⟩,_,?_,⟨b,_,_,rfl,rfl,stamped_push O y,?_,?_,E⟩,d _⟩
  .simp[Instr.mapUpdate,đ ht,Ź A,ky.keyed.check w false J,N,MapKept.run_setObj_map _ A,Result.andThen]
  .rw[tf a]
   intro p hp
   rcases ĉ.1 hp with hp|hp
   .exact Q p hp
   simp only[ī] at hp; subst hp; exact I
  rw[tf a,Array.toList_push]
  exact (H.imp λp hp v Y=>hi p hp (a p hp) v Y).push rfl hv
 have U:es[j]? = some Z:=by rw[<- aaM]; exact y
 have r:∀ e':MapEntry,es[j]? = some e'->({ e' with key:=ky.enc k,val:=val }:MapEntry).key=e'.key:=λe' c=>by rw[U] at c; cases c; exact f.symm
 have X:=((stamped_iff es clock).1 O).2.2
 have u:(es.modify j λe'=>{ e' with key:=ky.enc k,val:=val }).toList=es.toList.set j { Z with key:=ky.enc k,val:=val }:=by
  apply fF
  intro i
  rw[aaM,ħ,aaF]
  by_cases m:j=i
  .subst m
   rw[Ă rfl,Ă rfl,U,Ă (Ć.1 y).1]; rfl
  rw[Ā m,Ā m,aaM]
 refine⟨some ⟨b,.map (es.modify j λe'=>{ e' with key:=ky.enc k,val:=val }) clock,0⟩,_,?_,⟨b,_,_,rfl,rfl,stamped_modify O _ _ (λ_ _=>rfl) (λe' _ c=>r e' c),?_,?_,E⟩,d _⟩
 .simp[Instr.mapUpdate,đ ht,Ź A,ky.keyed.check w false J,N,U,f,ky.keyed.stays w J,MapKept.run_setObj_map _ A,Result.andThen]
 .have:∀ (D:Ŀ (K×V)),(∀ p ∈ D,ky.ok p.1)->∀ p ∈ Ñ D k x,ky.ok p.1:=by
   intro D
   induction D with
   | nil=>intro _ p hp; simp only[Ñ,ī] at hp; subst hp; exact I
   | cons q D ih=>
    intro R p hp
    simp only[Ñ] at hp
    split at hp
    .rcases ą.1 hp with rfl|hp
     .exact I
     exact R p (by simp[hp])
    rcases ą.1 hp with rfl|hp
    .exact R p (by simp)
    exact ih (λp hp=>R p (by simp[hp])) p hp
  exact this D Q
 rw[u]
 exact ib.set (λh=>ky.inj h) hv H X y f hi
theorem run_get(c:Bool){t e:TypeId}(F:P.underlying t=some (.map kt e)){z:Value}(R:∀ w,(zeroValue e).run P w = .ok z w){v:Value}{D:Ŀ (K×V)}{tk:ŀ Ow}(h:ü ky Rv v D tk){key:Nat}(u:L.get key=tk){k:K}(O:ky.ok k)(w:World)(Q:St w0 G0 G L w):
  ∃ val,(Instr.lookup t v (ky.enc k) c).run P w = .ok (if c then .tuple #[val,.bool (Å D k).isSome] else val) w/\((Å D k=none/\val=z)\/∃ x,Å D k=some x/\Rv k val x):=by
 obtain⟨b,es,clock,rfl,rfl,J,N,q,S⟩:=h
 obtain⟨l,y⟩:=ky.lit O
 have r:=(Q.loc key _ u).1
 dsimp only at r
 have d:∀ f ∈ es.toList,∃ l,keyOf P kt f.key=some l:=λf a=>by
  obtain⟨p,hp,A,_⟩:=q.key f a
  rw[A]; exact ky.lit (N p hp)
 have B:=((stamped_iff es clock).1 J).2.2
 rcases ky.keyed.find w y es.toList d with ⟨i,m⟩|⟨j,I,i,m,n⟩
 .have g:∀ p ∈ D,p.1≠k:=λp hp e'=>by
   obtain⟨f,a,s⟩:=q.mem p hp
   exact m f a (by rw[s,e'])
  have E:=zF g
  refine⟨z,?_,.inl ⟨E,rfl⟩⟩
  rw[E]
  simp[Instr.lookup,đ F,Ź r,ky.keyed.check w _ y,i,R,Result.andThen]
 obtain⟨x,H,C⟩:=ib.get (λh=>ky.inj h) q B m n
 refine⟨I.val,?_,.inr ⟨x,H,C⟩⟩
 rw[H]
 simp[Instr.lookup,đ F,Ź r,ky.keyed.check w _ y,i,Result.andThen]
end
section
variable {P:Program}{kt:TypeId}{K V:Type} [DecidableEq K] {ky:Ky P kt K}{Rv Rv':K->Value->V->Prop}
variable {N:Nat}{Q:õ}{fr:Fr}{S:Υ}{ops:Array Oper}{l:Ŀ Oper}{dst:ŀ Nat}{ty:TypeId}{pos:String}{af:Array Edge}{g:ŀ (Nat×Bool)}
variable {w0:Bs}{G0 G:Mem}{L:Lo}
omit [DecidableEq K] in
theorem WL.makeMap{t:TypeId}(key:Nat)(h:κ ops fr ⟨dst,.makeMap t none,ty,pos,af,g⟩ true)(f:è N dst)
  (k:∀ b tk,ü ky Rv (.map (some b)) [] tk->WL P N ops Q l (ξ dst (.map (some b)) fr) (St w0 G0 G ((key,tk)::L))):WL P N ops Q (⟨dst,.makeMap t none,ty,pos,af,g⟩::l) fr (St w0 G0 G L):=by
 refine WL.yr (Φ:=λv w=>∃ b,v = .map (some b)/\St w0 G0 G ((key,some ⟨b,.map #[] 0,0⟩)::L) w) h (λa w c i=>?_) f (λv a w c ⟨b,d,e⟩=>by subst d; exact k b _ (ü.empty b) a w c e)
 have:(execOp a.eval ⟨dst,.makeMap t none,ty,pos,af,g⟩).run P w = .ok (.value (.map (some w.heap.size))) (w.alloc (.map #[] 0)):=by
  simp[execOp,run_makeMap]
 rw[this]
 exact⟨_,rfl,i.push key _⟩
theorem WL.yG{t e:TypeId}{m x y:Operand}{v val:Value}{D:Ŀ (K×V)}{tk:ŀ Ow}{k:K}{z:V}(key:Nat)(r:κ ops fr ⟨none,.mapUpdate t m x y,ty,pos,af,g⟩ true)(B:P.underlying t=some (.map kt e))(h:ü ky Rv v D tk)(j:L.get key=tk)
  (u:fr.ev m=some v) (E:fr.ev x=some (ky.enc k)) (F:fr.ev y=some val) (s:ky.ok k) (C:Rv' k val z) (hi:∀ p ∈ D,p.1≠k->∀ v,Rv p.1 v p.2->Rv' p.1 v p.2) (n:(Ñ D k z).length<=small)
  (kk:∀ c,ü ky Rv' v (Ñ D k z) c->WL P N ops Q l fr (St w0 G0 G ((key,c)::L))):WL P N ops Q (⟨none,.mapUpdate t m x y,ty,pos,af,g⟩::l) fr (St w0 G0 G L):=by
 refine WL.yr (Φ:=λ_ w=>∃ c,ü ky Rv' v (Ñ D k z) c/\St w0 G0 G ((key,c)::L) w) r (λa w d A=>?_) trivial (λ_ a w d ⟨c,f,i⟩=>kk c f a w d i)
 obtain⟨c,w',f,i,q⟩:=Zu1 B h j s C hi n w A
 have:(execOp a.eval ⟨none,.mapUpdate t m x y,ty,pos,af,g⟩).run P w = .ok .skip w'\/(execOp a.eval ⟨none,.mapUpdate t m x y,ty,pos,af,g⟩).run P w = .ok (.value undef) w':=by
  simp[execOp,d.ev u,d.ev E,d.ev F,f]
 rcases this with this|this <;> rw[this] <;> exact⟨c,i,q⟩
theorem Y0.pY{t e:TypeId}{m x:Operand}{v z:Value}{D:Ŀ (K×V)}{tk:ŀ Ow}{k:K}{key:Nat}(B:P.underlying t=some (.map kt e))(E:∀ w,(zeroValue e).run P w = .ok z w)(h:ü ky Rv v D tk)(f:L.get key=tk)
  (s:fr.ev m=some v) (C:fr.ev x=some (ky.enc k)) (r:ky.ok k) (c:Bool) {R:Value->Prop}(n:Å D k=none->R (if c then .tuple #[z,.bool false] else z)) (p:∀ val y,Å D k=some y->Rv k val y->R (if c then .tuple #[val,.bool true] else val)) :
  YR P N ⟨dst,.lookup t m x c,ty,pos,af,g⟩ fr (St w0 G0 G L) (λu w=>R u/\St w0 G0 G L w):=λa w i j=>by
 obtain⟨val,A,q⟩:=run_get c B E h f r w j
 have:(execOp a.eval ⟨dst,.lookup t m x c,ty,pos,af,g⟩).run P w = .ok (.value (if c then .tuple #[val,.bool (Å D k).isSome] else val)) w:=by
  simp[execOp,i.ev s,i.ev C,A]
 rw[this]
 refine⟨?_,j⟩
 rcases q with ⟨d,rfl⟩|⟨y,d,l⟩
 .have:=n d; rw[d]; exact this
 have:=p val y d l; rw[d]; exact this
theorem WL.pY{t e:TypeId}{m x:Operand}{v z:Value}{D:Ŀ (K×V)}{tk:ŀ Ow}{k:K}(key:Nat)(c:Bool){R:Value->Prop}(p:κ ops fr ⟨dst,.lookup t m x c,ty,pos,af,g⟩ true)(n:è N dst)(s:P.underlying t=some (.map kt e))(B:∀ w,(zeroValue e).run P w = .ok z w)(h:ü ky Rv v D tk)(d:L.get key=tk)
  (r:fr.ev m=some v) (A:fr.ev x=some (ky.enc k)) (q:ky.ok k) (f:Å D k=none->R (if c then .tuple #[z,.bool false] else z)) (i:∀ val y,Å D k=some y->Rv k val y->R (if c then .tuple #[val,.bool true] else val))
  (kk:∀ u,R u->WL P N ops Q l (ξ dst u fr) (St w0 G0 G L)):WL P N ops Q (⟨dst,.lookup t m x c,ty,pos,af,g⟩::l) fr (St w0 G0 G L):=
 WL.yr p (Y0.pY s B h d r A q c f i) n (λu a w j ⟨C,E⟩=>kk u C a w j E)
end
end Go.EL

