/- The law SystemSolutions holds for every input: a part of its proof (what the code does, plain models, and what they return). No condition. -/
import Derived.Tactics
import Derived.Deep.Quiet
import Derived.KernelRfl
import Derived.Below
import Derived.WalkKit
import Derived.Shelf.Abstract
import Derived.Deep.AppendSrc
import Derived.Scope
import Derived.ChangeKeysEq
import Derived.Laws.StructEq
import Derived.Shelf.SlSortCmp.NoneTotal
import Derived.Maps.Keyed
import Derived.Carry
set_option linter.unusedVariables false
set_option linter.unusedSimpArgs false
namespace Go.EL
open Go.IntKind (i8 i16 i32 i64 u8 u16 u32 u64)
open Go
abbrev Fr:=List (Nat×Value)
def Fr.get:Fr->Nat->Option Value
 | [],_=>none
 | p::r,t=>bif Nat.beq p.1 t then some p.2 else Fr.get r t
def Fr.ev(fr:Fr):Operand->Option Value
 | .tmp t=>fr.get t
 | .const v=>some v
 | .global g=>some (.pointer (some ⟨g,0,none⟩))
 | .func f=>some (.func (.func f) #[] #[])
def Fr.evs(fr:Fr):List Operand->Option (List Value)
 | []=>some []
 | x::r=>match fr.ev x,Fr.evs fr r with
  | some v,some vs=>some (v::vs)
  | _,_=>none
structure Rel (N:Nat) (fr:Fr) (a:Act):Prop where
 defers:a.defers=[]
 size:a.tmps.size=N
 here:∀ t v,fr.get t=some v->a.tmps[t]? = some v
theorem Rel.ev{N:Nat}{fr:Fr}{a:Act}{x:Operand}{v:Value}(h:Rel N fr a)(hx:fr.ev x=some v):a.eval x=v:=by
 cases x with
 | tmp t=>simp only[Fr.ev] at hx; simp[Act.eval,h.here t v hx]
 | const c=>simpa [Fr.ev,Act.eval] using hx
 | global g=>simpa [Fr.ev,Act.eval] using hx
 | func f=>simpa [Fr.ev,Act.eval] using hx
theorem Rel.evs{N:Nat}{fr:Fr}{a:Act}(h:Rel N fr a):∀ (xs:List Operand) (vs:List Value),fr.evs xs=some vs->xs.map a.eval=vs
 | [],vs,e=>by simp[Fr.evs] at e; simp[e]
 | x::r,vs,e=>by
  simp only[Fr.evs] at e
  split at e
  .rename_i v us h1 h2
   simp only[Option.some.injEq] at e
   subst e
   simp[h.ev h1,Rel.evs h r us h2]
  cases e
theorem Rel.put{N:Nat}{fr:Fr}{a:Act}{d:Nat}(v:Value)(h:Rel N fr a)(hd:d<N):Rel N ((d,v)::fr) (a.put (some d) v) where
 defers:=h.defers
 size:=by simp[Act.put,h.size]
 here:=by
  intro t u hu
  simp only[Fr.get] at hu
  cases hb:Nat.beq d t with
  | true=>
   rw[hb] at hu
   simp only[cond_true,Option.some.injEq] at hu
   have:=Nat.eq_of_beq_eq_true hb
   subst this hu
   simp[Act.put,h.size,hd]
  | false=>
   rw[hb] at hu
   simp only[cond_false] at hu
   have hne:d≠t:=fun e=>by subst e; simp at hb
   simp only[Act.put]
   rw[Array.getElem?_setIfInBounds_ne hne]
   exact h.here t u hu
def Fr.sub(fr' fr:Fr):Prop:=∀ t v,fr'.get t=some v->fr.get t=some v
theorem Fr.Zt(fr:Fr):Fr.sub [] fr:=fun t v h=>by simp[Fr.get] at h
theorem Fr.Zd{fr' fr:Fr}{t:Nat}{v:Value}(h:fr.get t=some v)(hs:Fr.sub fr' fr):Fr.sub ((t,v)::fr') fr:=by
 intro u x hx
 simp only[Fr.get] at hx
 cases hb:Nat.beq t u with
 | true=>
  rw[hb] at hx
  simp only[cond_true,Option.some.injEq] at hx
  have:=Nat.eq_of_beq_eq_true hb
  subst this hx
  exact h
 | false=>
  rw[hb] at hx
  simp only[cond_false] at hx
  exact hs u x hx
theorem Rel.weaken{N:Nat}{fr fr':Fr}{a:Act}(h:Rel N fr a)(hs:Fr.sub fr' fr):Rel N fr' a:=⟨h.defers,h.size,fun t v e=>h.here t v (hs t v e)⟩
abbrev Asrt:=World->Prop
abbrev Post:=Exit->Act->World->Prop
def WC(P:Program)(N:Nat)(c:Code)(Q:Post)(fr:Fr)(S:Asrt):Prop:=∀ a w,Rel N fr a->S w->c.wp P Q a w
def WE(N:Nat)(Q:Post)(e:Exit)(fr:Fr)(S:Asrt):Prop:=∀ a w,Rel N fr a->S w->Q e a w
def WL(P:Program)(N:Nat)(ops:Array Oper)(Q:Post)(l:List Oper)(fr:Fr)(S:Asrt):Prop:=∀ a w,Rel N fr a->S w->wpList P ops Q l a w
section
variable {P:Program}{N:Nat}{Q:Post}{fr:Fr}{S:Asrt}
theorem WC.seq{x y:Code}(h:WC P N x (Exit.then (y.wp P Q) Q) fr S):WC P N (.seq x y) Q fr S:=fun a w ha hs=>wp_seq (h a w ha hs)
theorem WC.skip(h:WE N Q .normal fr S):WC P N .skip Q fr S:=fun a w ha hs=>wp_skip (h a w ha hs)
theorem WC.exit{id:Nat}(h:WE N Q (.exit id) fr S):WC P N (.exit id) Q fr S:=fun a w ha hs=>wp_exit (h a w ha hs)
theorem WC.ret(h:WE N Q .ret fr S):WC P N .ret Q fr S:=fun a w ha hs=>wp_ret (h a w ha hs)
theorem WC.block{id:Nat}{c:Code}(h:WC P N c (Exit.inBlock id Q) fr S):WC P N (.block id c) Q fr S:=fun a w ha hs=>wp_block (h a w ha hs)
theorem WC.region{id:Nat}{l:List Oper}(h:WL P N l.toArray Q l fr S):WC P N (.region id l.toArray false) Q fr S:=fun a w ha hs=>wp_region_lit (h a w ha hs)
theorem WC.cond{c:Operand}{x y:Code}{b:Bool}(hc:fr.ev c=some (.bool b))(ht:b=true->WC P N x Q fr S)(hf:b=false->WC P N y Q fr S):WC P N (.cond c x y) Q fr S:=
 fun a w ha hs=>wp_cond_split (ha.ev hc) (fun e=>ht e a w ha hs) (fun e=>hf e a w ha hs)
theorem WC.condD{c:Operand}{x y:Code}{p:Prop}[Decidable p](hc:fr.ev c=some (.bool (decide p)))(ht:p->WC P N x Q fr S)(hf:¬ p->WC P N y Q fr S):WC P N (.cond c x y) Q fr S:=
 WC.cond hc (fun e=>ht (of_decide_eq_true e)) (fun e=>hf (of_decide_eq_false e))
theorem WC.condT{c:Operand}{x y:Code}(hc:fr.ev c=some (.bool true))(ht:WC P N x Q fr S):WC P N (.cond c x y) Q fr S:=WC.cond hc (fun _=>ht) (fun e=>by cases e)
theorem WC.condF{c:Operand}{x y:Code}(hc:fr.ev c=some (.bool false))(hf:WC P N y Q fr S):WC P N (.cond c x y) Q fr S:=WC.cond hc (fun e=>by cases e) (fun _=>hf)
theorem WE.then{c:Code}(h:WC P N c Q fr S):WE N (Exit.then (c.wp P Q) Q) .normal fr S:=h
theorem WE.thenExit{K:Act->World->Prop}{id:Nat}(h:WE N Q (.exit id) fr S):WE N (Exit.then K Q) (.exit id) fr S:=h
theorem WE.thenRet{K:Act->World->Prop}(h:WE N Q .ret fr S):WE N (Exit.then K Q) .ret fr S:=h
theorem WE.inBlock{id:Nat}(h:WE N Q .normal fr S):WE N (Exit.inBlock id Q) .normal fr S:=h
theorem WE.inBlockRet{id:Nat}(h:WE N Q .ret fr S):WE N (Exit.inBlock id Q) .ret fr S:=h
theorem WE.exitHere{id:Nat}(h:WE N Q .normal fr S):WE N (Exit.inBlock id Q) (.exit id) fr S:=fun a w ha hs=>by
 simp only[Exit.inBlock,if_true]; exact h a w ha hs
theorem WE.exitOut{id id':Nat}(hne:Nat.beq id' id=false)(h:WE N Q (.exit id') fr S):WE N (Exit.inBlock id Q) (.exit id') fr S:=fun a w ha hs=>by
 have:¬ id'=id:=fun e=>by subst e; simp at hne
 simp only[Exit.inBlock,this,if_false]; exact h a w ha hs
theorem WL.conseq{ops:Array Oper}{l:List Oper}{S':Asrt}(hS:∀ w,S w->S' w)(h:WL P N ops Q l fr S'):WL P N ops Q l fr S:=fun a w ha hw=>h a w ha (hS w hw)
theorem WC.conseq{c:Code}{S':Asrt}(hS:∀ w,S w->S' w)(h:WC P N c Q fr S'):WC P N c Q fr S:=fun a w ha hw=>h a w ha (hS w hw)
theorem WE.conseq{e:Exit}{S':Asrt}(hS:∀ w,S w->S' w)(h:WE N Q e fr S'):WE N Q e fr S:=fun a w ha hw=>h a w ha (hS w hw)
theorem WL.nil{ops:Array Oper}(h:WE N Q .normal fr S):WL P N ops Q [] fr S:=h
def Back{X:Type}(N:Nat)(F:X->Fr)(I:X->Asrt)(m:X->Nat)(x:X):Act->World->Prop:=fun a w=>∃ x',Rel N (F x') a/\I x' w/\m x'<m x
theorem least{p:Nat->Prop}(h:∃ n,p n):∃ n,p n/\∀ k,p k->n<=k:=by
 obtain⟨n,hn⟩:=h
 induction n using Nat.strongRecOn with
 | _ n ih=>
  by_cases hk:∃ k,k<n/\p k
  .obtain⟨k,h1,h2⟩:=hk
   exact ih k h1 h2
  refine⟨n,hn,fun k hp=>?_⟩
  rcases Nat.lt_or_ge k n with h|h
  .exact absurd ⟨k,h,hp⟩ hk
  exact h
theorem WC.loop{c:Code}{X:Type}(F:X->Fr)(I:X->Asrt)(m:X->Nat)(x₀:X)(hF:Fr.sub (F x₀) fr)(hI:∀ w,S w->I x₀ w)
  (round:∀ x,WC P N c (Exit.then (Back N F I m x) Q) (F x) (I x)):WC P N (.loop c) Q fr S:=by
 classical
 intro a w ha hs
 have ex:∀ a w,(∃ x,Rel N (F x) a/\I x w)->∃ n,∃ x,(Rel N (F x) a/\I x w)/\m x=n:=fun a w ⟨x,h⟩=>⟨m x,x,h,rfl⟩
 let μ:Act->World->Nat:=fun a w=>if h:∃ x,Rel N (F x) a/\I x w then Classical.choose (least (ex a w h)) else 0
 refine wp_loop (fun a w=>∃ x,Rel N (F x) a/\I x w) μ ⟨x₀,ha.weaken hF,hI w hs⟩ ?_
 intro a w h
 obtain⟨x,⟨hx1,hx2⟩,hx3⟩:=(Classical.choose_spec (least (ex a w h))).1
 have hμ:μ a w=m x:=by simp only[μ,dif_pos h]; exact hx3.symm
 refine Code.wp_mono (fun e a' w' hq=>?_) (round x a w hx1 hx2)
 cases e <;> first|exact hq|skip
 obtain⟨x',h1,h2,h3⟩:=hq
 refine⟨⟨x',h1,h2⟩,?_⟩
 have h':∃ x,Rel N (F x) a'/\I x w':=⟨x',h1,h2⟩
 have:μ a' w'<=m x':=by simp only[μ,dif_pos h']; exact (Classical.choose_spec (least (ex a' w' h'))).2 _ ⟨x',⟨h1,h2⟩,rfl⟩
 omega
end
def Y0(P:Program)(N:Nat)(o:Oper)(fr:Fr)(S:Asrt)(v:Value):Prop:=∀ a w,Rel N fr a->S w->(execOp a.eval o).run P w = .ok (.value v) w
def YS(P:Program)(N:Nat)(o:Oper)(fr:Fr)(S S':Asrt):Prop:=∀ a w,Rel N fr a->S w->∃ w',(execOp a.eval o).run P w = .ok .skip w'/\S' w'
def YC(P:Program)(N:Nat)(o:Oper)(fr:Fr)(S:Asrt)(f:FuncId)(args:Array Value):Prop:=∀ a w,Rel N fr a->S w->(execOp a.eval o).run P w = .ok (.enter f args) w
section
variable {P:Program}{N:Nat}{Q:Post}{fr:Fr}{S:Asrt}{ops:Array Oper}{l:List Oper}
def guardOK(ops:Array Oper)(fr:Fr)(o:Oper)(b:Bool):Prop:=
 match o.guard with
 | none=>b=true
 | some (j,want)=>(∃ d c,(ops[j]?).bind (·.dst)=some d/\fr.get d=some (.bool c)/\b=(c == want))\/(∃ d,(ops[j]?).bind (·.dst)=some d/\fr.get d=some undef/\b=false)
theorem Rel.wanted{a:Act}{o:Oper}{b:Bool}(h:Rel N fr a)(hg:guardOK ops fr o b):Region.wanted o (yielded ops a.tmps)=b:=by
 unfold guardOK at hg
 unfold Region.wanted
 cases ho:o.guard with
 | none=>rw[ho] at hg; simp at hg; simp[hg]
 | some p=>
  obtain⟨j,want⟩:=p
  rw[ho] at hg
  rcases hg with ⟨d,c,h1,h2,h3⟩|⟨d,h1,h2,h3⟩
  .simp only[yielded,h1,Option.bind_some,h.here d _ h2]
   rw[h3]
   cases c <;> cases want <;> rfl
  simp only[yielded,h1,Option.bind_some,h.here d _ h2]
  rw[h3]
  rfl
def putFr(d:Option Nat)(v:Value)(fr:Fr):Fr:=match d with|some t=>(t,v)::fr|none=>fr
def dstOK(N:Nat)(d:Option Nat):Prop:=match d with|some t=>Nat.blt t N=true|none=>True
theorem Rel.putFr{a:Act}{d:Option Nat}(v:Value)(h:Rel N fr a)(hd:dstOK N d):Rel N (EL.putFr d v fr) (a.put d v):=by
 cases d with
 | none=>exact h
 | some t=>exact h.put v (by simpa [dstOK,Nat.blt_eq] using hd)
theorem WL.y0'{dst:Option Nat}{op:Op}{ty:TypeId}{pos:String}{af:Array Edge}{g:Option (Nat×Bool)}{v:Value}
  (hg:guardOK ops fr ⟨dst,op,ty,pos,af,g⟩ true) (h:Y0 P N ⟨dst,op,ty,pos,af,g⟩ fr S v) (hd:dstOK N dst) (k:WL P N ops Q l (putFr dst v fr) S):WL P N ops Q (⟨dst,op,ty,pos,af,g⟩::l) fr S:=by
 intro a w ha hs
 unfold wpList
 rw[if_pos (ha.wanted hg)]
 refine .inl ?_
 simp only[Oper.wp,h a w ha hs,Oper.upon]
 exact k _ w (ha.putFr v hd) hs
theorem WL.ys'{op:Op}{ty:TypeId}{pos:String}{af:Array Edge}{g:Option (Nat×Bool)}{S':Asrt}
  (hg:guardOK ops fr ⟨none,op,ty,pos,af,g⟩ true) (h:YS P N ⟨none,op,ty,pos,af,g⟩ fr S S') (k:WL P N ops Q l fr S'):WL P N ops Q (⟨none,op,ty,pos,af,g⟩::l) fr S:=by
 intro a w ha hs
 obtain⟨w',hr,hp⟩:=h a w ha hs
 unfold wpList
 rw[if_pos (ha.wanted hg)]
 refine .inl ?_
 simp only[Oper.wp,hr,Oper.upon]
 exact k _ w' ha hp
theorem WL.skip{dst:Option Nat}{op:Op}{ty:TypeId}{pos:String}{af:Array Edge}{g:Option (Nat×Bool)}
  (hg:guardOK ops fr ⟨dst,op,ty,pos,af,g⟩ false) (hd:dstOK N dst) (k:WL P N ops Q l (putFr dst undef fr) S):WL P N ops Q (⟨dst,op,ty,pos,af,g⟩::l) fr S:=by
 intro a w ha hs
 unfold wpList
 rw[if_neg (by rw[ha.wanted hg]; simp)]
 exact k _ w (ha.putFr undef hd) hs
theorem Ze{dst:Option Nat}{op:Op}{ty:TypeId}{pos:String}{af:Array Edge}:guardOK ops fr ⟨dst,op,ty,pos,af,none⟩ true:=rfl
theorem ZgW{dst:Option Nat}{op:Op}{ty:TypeId}{pos:String}{af:Array Edge}{j:Nat}{c:Bool}{d:Nat}(h1:(ops[j]?).bind (·.dst)=some d)(h2:fr.get d=some (.bool c)):
  guardOK ops fr ⟨dst,op,ty,pos,af,some (j,c)⟩ true:=.inl ⟨d,c,h1,h2,by cases c <;> rfl⟩
theorem ZoK{dst:Option Nat}{op:Op}{ty:TypeId}{pos:String}{af:Array Edge}{j:Nat}{c:Bool}{d:Nat}(h1:(ops[j]?).bind (·.dst)=some d)(h2:fr.get d=some (.bool (!c))):
  guardOK ops fr ⟨dst,op,ty,pos,af,some (j,c)⟩ false:=.inl ⟨d,!c,h1,h2,by cases c <;> rfl⟩
theorem ZcN{dst:Option Nat}{op:Op}{ty:TypeId}{pos:String}{af:Array Edge}{j:Nat}{d:Nat}(h1:(ops[j]?).bind (·.dst)=some d)(h2:fr.get d=some (.bool false)):
  guardOK ops fr ⟨dst,op,ty,pos,af,some (j,true)⟩ false:=.inl ⟨d,false,h1,h2,rfl⟩
theorem ZjU{dst:Option Nat}{op:Op}{ty:TypeId}{pos:String}{af:Array Edge}{j:Nat}{d:Nat}(h1:(ops[j]?).bind (·.dst)=some d)(h2:fr.get d=some (.bool true)):
  guardOK ops fr ⟨dst,op,ty,pos,af,some (j,false)⟩ false:=.inl ⟨d,true,h1,h2,rfl⟩
theorem ZhY{dst:Option Nat}{op:Op}{ty:TypeId}{pos:String}{af:Array Edge}{j:Nat}{c:Bool}{d:Nat}(h1:(ops[j]?).bind (·.dst)=some d)(h2:fr.get d=some undef):
  guardOK ops fr ⟨dst,op,ty,pos,af,some (j,c)⟩ false:=.inr ⟨d,h1,h2,rfl⟩
end
end Go.EL
namespace Go.EL
open Go.IntKind (i8 i16 i32 i64 u8 u16 u32 u64)
open Go
def ancStep(md:Region.Mode)(acc:List (List Nat))(o:Oper):List Nat:=
 (List.range acc.length).filter fun j=>o.after.toList.any fun e=>Region.binds md e && (Nat.beq e.on j || (acc.getD e.on []).contains j)
def ancs(md:Region.Mode):List Oper->List (List Nat)->List (List Nat)
 | [],acc=>acc
 | o::r,acc=>ancs md r (acc++[ancStep md acc o])
theorem ZgK(md:Region.Mode):∀ (l:List Oper) (acc:List (List Nat)) (k:Nat),k<acc.length->(ancs md l acc)[k]? = acc[k]?
 | [],acc,k,_=>rfl
 | o::r,acc,k,h=>by
  simp only[ancs]
  rw[ZgK md r _ k (by simp; omega),List.getElem?_append_left h]
theorem Zl3(md:Region.Mode):∀ (l:List Oper) (acc:List (List Nat)) (i:Nat) (o:Oper),l[i]? = some o->
  (ancs md l acc)[acc.length+i]? = some (ancStep md ((ancs md l acc).take (acc.length+i)) o)
 | [],acc,i,o,h=>by simp at h
 | p::r,acc,0,o,h=>by
  simp at h
  subst h
  simp only[ancs,Nat.add_zero]
  have hk:=ZgK md r (acc++[ancStep md acc p]) acc.length (by simp)
  rw[hk]
  have ht:(ancs md r (acc++[ancStep md acc p])).take acc.length=acc:=by
   apply List.ext_getElem?
   intro j
   rw[List.getElem?_take]
   split
   .rename_i hj
    rw[ZgK md r _ j (by simp; omega),List.getElem?_append_left hj]
   rename_i hj
   simp at hj
   rw[List.getElem?_eq_none hj]
  rw[ht]
  simp
 | p::r,acc,i+1,o,h=>by
  simp at h
  have:=Zl3 md r (acc++[ancStep md acc p]) i o h
  simp only[ancs]
  have e:(acc++[ancStep md acc p]).length+i=acc.length+(i+1):=by simp; omega
  rw[e] at this
  exact this
def Closed(md:Region.Mode)(ops:Array Oper)(D:Nat->Prop):Prop:=∀ i o,ops[i]? = some o->D i->∀ e ∈ o.after,Region.binds md e=true->D e.on
theorem Zb5{md:Region.Mode}{l:List Oper}{D:Nat->Prop}(hc:Closed md l.toArray D):
  ∀ k o,l[k]? = some o->(∀ e ∈ o.after,Region.binds md e=true->D e.on)->∀ j,j ∈ (ancs md l []).getD k []->D j:=by
 intro k
 induction k using Nat.strongRecOn with
 | _ k ih=>
  intro o ho hr j hj
  have h:=Zl3 md l [] k o ho
  simp only[List.length_nil,Nat.zero_add] at h
  rw[List.getD_eq_getElem?_getD,h] at hj
  simp only[Option.getD_some,ancStep,List.mem_filter,List.mem_range,List.any_eq_true,Bool.and_eq_true,Bool.or_eq_true] at hj
  obtain⟨hjl,e,he,hb,hej⟩:=hj
  have hD:=hr e (by simpa using he) hb
  rcases hej with hej|hej
  .have:=Nat.eq_of_beq_eq_true hej
   subst this
   exact hD
  have hlt:e.on<k:=by
   rcases Nat.lt_or_ge e.on k with h|h
   .exact h
   rw[List.getD_eq_getElem?_getD,List.getElem?_eq_none (by simp; omega)] at hej
   simp at hej
  have hget:((ancs md l []).take k).getD e.on []=(ancs md l []).getD e.on []:=by
   rw[List.getD_eq_getElem?_getD,List.getD_eq_getElem?_getD,List.getElem?_take,if_pos hlt]
  rw[hget] at hej
  have hkl:k<l.length:=(List.getElem?_eq_some_iff.1 ho).1
  have hoe:l[e.on]? = some (l[e.on]'(by omega)):=List.getElem?_eq_getElem (by omega)
  exact ih e.on hlt _ hoe (fun e' he' hb'=>hc e.on _ (by simp) hD e' he' hb') j (by simpa using hej)
def tailB(md:Region.Mode)(l:List Oper)(fl:List Bool):Bool:=
 let A:=ancs md l []
 (List.range l.length).all fun k=>Nat.blt k fl.length || (List.range k).all fun j=>fl.getD j false || (A.getD k []).contains j
section
variable {P:Program}{Q:Post}{md:Region.Mode}{l:List Oper}{fl:List Bool}
theorem Zlt{D:Nat->Prop}(hT:tailB md l fl=true)(hc:Closed md l.toArray D){k:Nat}{o:Oper}(hk:fl.length<=k)(ho:l[k]? = some o)
  (hr:∀ e ∈ o.after,Region.binds md e=true->D e.on):∀ j,j<k->fl.getD j false=false->D j:=by
 intro j hj hf
 have hkl:k<l.length:=(List.getElem?_eq_some_iff.1 ho).1
 simp only[tailB,List.all_eq_true,List.mem_range,Bool.or_eq_true,Nat.blt_eq] at hT
 rcases hT k hkl with h|h
 .omega
 rcases h j hj with h'|h'
 .rw[hf] at h'; cases h'
 exact Zb5 hc k o ho hr j (by simpa using h')
def edgesB(md:Region.Mode)(l:List Oper):Bool:=(List.range l.length).all fun i=>((l[i]?).map fun o=>o.after.toList.all fun e=>!Region.binds md e || Nat.blt e.on i).getD true
theorem Zoz(hE:edgesB md l=true){i:Nat}{o:Oper}(ho:l[i]? = some o):∀ e ∈ o.after,Region.binds md e=true->e.on<i:=by
 intro e he hb
 have hil:i<l.length:=(List.getElem?_eq_some_iff.1 ho).1
 simp only[edgesB,List.all_eq_true,List.mem_range] at hE
 have:=hE i hil
 rw[ho] at this
 simp only[Option.map_some,Option.getD_some,List.all_eq_true,Bool.or_eq_true,Bool.not_eq_true',Nat.blt_eq] at this
 rcases this e (by simpa using he) with h|h
 .rw[h] at hb; cases hb
 exact h
def toCome(L:Nat)(listed:Array Bool):Nat:=((List.range L).filter fun i=>!listed.getD i false).length
theorem Ze0:∀ (l₁ l₂:List Nat),l₁.Nodup->(∀ x,x ∈ l₁->x ∈ l₂)->l₁.length<=l₂.length
 | [],_,_,_=>by simp
 | x::r,l₂,hn,hs=>by
  have hx:x ∈ l₂:=hs x (by simp)
  have hn':=List.nodup_cons.1 hn
  have h:=Ze0 r (l₂.erase x) hn'.2 (fun y hy=>(List.mem_erase_of_ne (fun (e:y=x)=>hn'.1 (by rw[<- e]; exact hy))).2 (hs y (by simp[hy])))
  have hl:=List.length_erase_of_mem hx
  have hp:=List.length_pos_of_mem hx
  simp only[List.length_cons]
  omega
theorem Znb{L i:Nat}{listed:Array Bool}(hs:listed.size=L)(hi:i<L)(hu:listed.getD i false=false):toCome L (listed.setIfInBounds i true)+1<=toCome L listed:=by
 unfold toCome
 have hsub:∀ j,j ∈ (i::(List.range L).filter fun j=>!(listed.setIfInBounds i true).getD j false)->j ∈ (List.range L).filter fun j=>!listed.getD j false:=by
  intro j hj
  simp only[List.mem_cons,List.mem_filter,List.mem_range,Bool.not_eq_true'] at hj ⊢
  rcases hj with rfl|⟨h1,h2⟩
  .exact⟨hi,hu⟩
  refine⟨h1,?_⟩
  by_cases e:i=j
  .subst e; simp[hs,hi] at h2
  rw[getD_set_ne false e] at h2; exact h2
 have hnd2:(i::(List.range L).filter fun j=>!(listed.setIfInBounds i true).getD j false).Nodup:=by
  refine List.nodup_cons.2 ⟨?_,List.nodup_range.filter _⟩
  simp[hs,hi]
 have:=Ze0 _ _ hnd2 hsub
 simpa using this
theorem Zoh(Inv:(Nat->Prop)->Act->World->Prop)(Inv2:(Nat->Prop)->Nat->Act->World->Prop)(hE:edgesB md l=true)(hT:tailB md l fl=true)
  (step:∀ (D:Nat->Prop) a w i o,Closed md l.toArray D->(∀ k,fl.length<=k->¬ D k)->i<fl.length->l[i]? = some o->¬ D i->(∀ e ∈ o.after,Region.binds md e=true->D e.on)->Inv D a w->
   wpOp P l.toArray Q i (fun a' w'=>Inv (fun j=>D j\/j=i) a' w') a w)
  (turn:∀ (D:Nat->Prop) a w,Closed md l.toArray D->(∀ i,i<fl.length->i<l.length->fl.getD i false=false->D i)->(∀ k,fl.length<=k->¬ D k)->Inv D a w->Inv2 D fl.length a w)
  (tail:∀ (D:Nat->Prop) a w m o,Closed md l.toArray D->fl.length<=m->l[m]? = some o->(∀ k,m<=k->¬ D k)->(∀ e ∈ o.after,Region.binds md e=true->D e.on)->Inv2 D m a w->
   wpOp P l.toArray Q m (fun a' w'=>Inv2 (fun j=>D j\/j=m) (m+1) a' w') a w)
  (float:∀ (D:Nat->Prop) a w m i o,Closed md l.toArray D->i<fl.length->fl.length<=m->fl.getD i false=true->l[i]? = some o->¬ D i->(∀ e ∈ o.after,Region.binds md e=true->D e.on)->Inv2 D m a w->
   wpOp P l.toArray Q i (fun a' w'=>Inv2 (fun j=>D j\/j=i) m a' w') a w)
  (fin:∀ (D:Nat->Prop) a w m,(∀ i,i<l.length->D i)->l.length<=m->Inv2 D m a w->Q .normal a w) :
  ∀ (fuel:Nat) (listed:Array Bool) (D:Nat->Prop) (a:Act) (w:World),listed.size=l.length->(∀ i,D i↔listed.getD i false=true)->Closed md l.toArray D->
   toCome l.length listed<=fuel->
   ((∃ i,i<fl.length/\i<l.length/\fl.getD i false=false/\¬ D i)/\(∀ k,fl.length<=k->¬ D k)/\Inv D a w\/
    ∃ m,fl.length<=m/\(∀ i,i<fl.length->i<l.length->fl.getD i false=false->D i)/\(∀ i,fl.length<=i->i<m->i<l.length->D i)/\(∀ k,m<=k->¬ D k)/\Inv2 D m a w)->
   wpAny P md l.toArray Q fuel listed a w:=by
 have readyMem:∀ (listed:Array Bool) (D:Nat->Prop) (j:Nat),listed.size=l.length->(∀ i,D i↔listed.getD i false=true)->j ∈ Region.ready md l.toArray listed->
   ¬ D j/\∃ o,l[j]? = some o/\∀ e ∈ o.after,Region.binds md e=true->D e.on:=by
  intro listed D j hs hD hj
  obtain⟨h0,o,ho,ha⟩:=mem_ready.1 hj
  have hjl:j<l.length:=by
   have:=(Array.getElem?_eq_some_iff.1 ho).1
   simpa using this
  refine⟨fun h=>?_,o,by simpa using ho,fun e he hb=>(hD _).2 (ha e he hb)⟩
  rw[hD] at h
  simp[hs,hjl] at h h0
  rw[h] at h0
  cases h0
 have readyOf:∀ (listed:Array Bool) (D:Nat->Prop) (j:Nat),listed.size=l.length->(∀ i,D i↔listed.getD i false=true)->j<l.length->¬ D j->(∀ i,i<j->D i)->j ∈ Region.ready md l.toArray listed:=by
  intro listed D j hs hD hj hn hall
  have ho:l[j]? = some l[j]:=List.getElem?_eq_getElem hj
  refine mem_ready.2 ⟨?_,l[j],by simp,fun e he hb=>(hD _).1 (hall _ (Zoz hE ho e he hb))⟩
  rw[hD] at hn
  simp[hs,hj] at hn ⊢
  exact hn
 have allOf:∀ (listed:Array Bool) (D:Nat->Prop),listed.size=l.length->(∀ i,D i↔listed.getD i false=true)->Region.ready md l.toArray listed=[]->∀ i,i<l.length->D i:=by
  intro listed D hs hD hr i hi
  apply Classical.byContradiction
  intro hni
  obtain⟨j,⟨hj1,hj2⟩,hmin⟩:=least (p:=fun j=>j<l.length/\¬ D j) ⟨i,hi,hni⟩
  have:j ∈ Region.ready md l.toArray listed:=readyOf listed D j hs hD hj1 hj2 (fun k hk=>by
   apply Classical.byContradiction
   intro hnk
   have:=hmin k ⟨by omega,hnk⟩
   omega)
  rw[hr] at this
  cases this
 have ended:∀ (D:Nat->Prop) a w,(∀ i,i<l.length->D i)->((∃ i,i<fl.length/\i<l.length/\fl.getD i false=false/\¬ D i)/\(∀ k,fl.length<=k->¬ D k)/\Inv D a w\/
    ∃ m,fl.length<=m/\(∀ i,i<fl.length->i<l.length->fl.getD i false=false->D i)/\(∀ i,fl.length<=i->i<m->i<l.length->D i)/\(∀ k,m<=k->¬ D k)/\Inv2 D m a w)->Q .normal a w:=by
  intro D a w hall h
  rcases h with ⟨⟨i,_,h2,_,h3⟩,_⟩|⟨m,_,_,_,h3,h4⟩
  .exact absurd (hall i h2) h3
  have:l.length<=m:=by
   rcases Nat.lt_or_ge m l.length with h|h
   .exact absurd (hall m h) (h3 m (Nat.le_refl _))
   exact h
  exact fin D a w m hall this h4
 intro fuel
 induction fuel with
 | zero=>
  intro listed D a w hs hD hc hf h
  have hall:∀ i,i<l.length->D i:=by
   intro i hi
   rw[hD]
   have h0:(List.range l.length).filter (fun i=>!listed.getD i false)=[]:=List.eq_nil_of_length_eq_zero (by unfold toCome at hf; omega)
   rw[List.filter_eq_nil_iff] at h0
   have:=h0 i (by simpa using hi)
   simpa using this
  refine⟨?_,ended D a w hall h⟩
  apply List.eq_nil_iff_forall_not_mem.2
  intro j hj
  obtain⟨h1,o,ho,_⟩:=readyMem listed D j hs hD hj
  exact h1 (hall j (List.getElem?_eq_some_iff.1 ho).1)
 | succ fuel ih=>
  intro listed D a w hs hD hc hf h
  have next:∀ i,i<l.length->¬ D i->(∀ o,l[i]? = some o->∀ e ∈ o.after,Region.binds md e=true->D e.on)->(∀ j,(D j\/j=i)↔(listed.setIfInBounds i true).getD j false=true)/\
    Closed md l.toArray (fun j=>D j\/j=i)/\toCome l.length (listed.setIfInBounds i true)<=fuel:=by
   intro i hi hn ha
   refine⟨fun j=>?_,?_,?_⟩
   .by_cases e:i=j
    .subst e; simp[hs,hi]
    rw[getD_set_ne false e,<- hD]
    exact⟨fun h=>h.resolve_right (fun h=>e h.symm),.inl⟩
   .intro k o ho hk e he hb
    rcases hk with hk|rfl
    .exact .inl (hc k o ho hk e he hb)
    exact .inl (ha o (by simpa using ho) e he hb)
   have hu:listed.getD i false=false:=by
    cases hb:listed.getD i false
    .rfl
    exact absurd ((hD i).2 hb) hn
   have:=Znb hs hi hu
   omega
  refine⟨fun hr=>ended D a w (allOf listed D hs hD hr) h,fun i hi=>?_⟩
  obtain⟨hni,o,ho,ha⟩:=readyMem listed D i hs hD hi
  have hil:i<l.length:=(List.getElem?_eq_some_iff.1 ho).1
  obtain⟨hD',hc',hf'⟩:=next i hil hni (fun o' ho'=>by rw[ho] at ho'; cases ho'; exact ha)
  rcases h with ⟨⟨q,h1,h2,hqf,h3⟩,htail,hInv⟩|⟨m,h1,h2,h2',h3,h4⟩
  .have hin:i<fl.length:=by
    rcases Nat.lt_or_ge i fl.length with h|h
    .exact h
    exact absurd (Zlt hT hc h ho ha q (by omega) hqf) h3
   refine wpOp_mono (fun a' w' hI=>?_) (step D a w i o hc htail hin ho hni ha hInv)
   have htail':∀ k,fl.length<=k->¬ (D k\/k=i):=by
    intro k hk
    rintro (h|rfl)
    .exact htail k hk h
    omega
   refine ih _ _ a' w' (by simpa using hs) hD' hc' hf' ?_
   by_cases hex:∃ q,q<fl.length/\q<l.length/\fl.getD q false=false/\¬ (D q\/q=i)
   .exact .inl ⟨hex,htail',hI⟩
   have hall:∀ q,q<fl.length->q<l.length->fl.getD q false=false->(D q\/q=i):=fun q hq hql hqf=>by
    apply Classical.byContradiction; intro hh; exact hex ⟨q,hq,hql,hqf,hh⟩
   exact .inr ⟨fl.length,Nat.le_refl _,hall,fun k _ _ _=>by omega,htail',turn _ a' w' hc' hall htail' hI⟩
  rcases Nat.lt_or_ge i fl.length with hin|hin
  .have hfl:fl.getD i false=true:=by
    cases hb:fl.getD i false
    .exact absurd (h2 i hin hil hb) hni
    rfl
   refine wpOp_mono (fun a' w' hI=>?_) (float D a w m i o hc hin h1 hfl ho hni ha h4)
   refine ih _ _ a' w' (by simpa using hs) hD' hc' hf' (.inr ⟨m,h1,fun q hq hql hqf=>.inl (h2 q hq hql hqf),fun q hq hqm hql=>.inl (h2' q hq hqm hql),fun k hk=>?_,hI⟩)
   rintro (h|rfl)
   .exact h3 k hk h
   omega
  have him:i=m:=by
   rcases Nat.lt_trichotomy i m with h|h|h
   .exact absurd (h2' i hin h hil) hni
   .exact h
   exact absurd (Zlt hT hc hin ho ha m h (by rw[List.getD_eq_getElem?_getD,List.getElem?_eq_none h1]; rfl)) (h3 m (Nat.le_refl _))
  subst him
  refine wpOp_mono (fun a' w' hI=>?_) (tail D a w i o hc h1 ho h3 ha h4)
  refine ih _ _ a' w' (by simpa using hs) hD' hc' hf' (.inr ⟨i+1,by omega,fun q hq hql hqf=>.inl (h2 q hq hql hqf),fun q hq hqm hql=>?_,fun k hk=>?_,hI⟩)
  .rcases Nat.lt_or_ge q i with h|h
   .exact .inl (h2' q hq h hql)
   exact .inr (by omega)
  rintro (h|rfl)
  .exact h3 k (by omega) h
  omega
theorem ZlY{a:Act}{w:World}(Inv:(Nat->Prop)->Act->World->Prop)(Inv2:(Nat->Prop)->Nat->Act->World->Prop)(hE:edgesB .any l=true)(hT:tailB .any l fl=true)
  (hI:Inv (fun _=>False) a { w with drawn:=w.drawn+1 })
  (step:∀ (D:Nat->Prop) a w i o,Closed .any l.toArray D->(∀ k,fl.length<=k->¬ D k)->i<fl.length->l[i]? = some o->¬ D i->(∀ e ∈ o.after,Region.binds .any e=true->D e.on)->Inv D a w->
   wpOp P l.toArray Q i (fun a' w'=>Inv (fun j=>D j\/j=i) a' w') a w)
  (turn:∀ (D:Nat->Prop) a w,Closed .any l.toArray D->(∀ i,i<fl.length->i<l.length->fl.getD i false=false->D i)->(∀ k,fl.length<=k->¬ D k)->Inv D a w->Inv2 D fl.length a w)
  (tail:∀ (D:Nat->Prop) a w m o,Closed .any l.toArray D->fl.length<=m->l[m]? = some o->(∀ k,m<=k->¬ D k)->(∀ e ∈ o.after,Region.binds .any e=true->D e.on)->Inv2 D m a w->
   wpOp P l.toArray Q m (fun a' w'=>Inv2 (fun j=>D j\/j=m) (m+1) a' w') a w)
  (float:∀ (D:Nat->Prop) a w m i o,Closed .any l.toArray D->i<fl.length->fl.length<=m->fl.getD i false=true->l[i]? = some o->¬ D i->(∀ e ∈ o.after,Region.binds .any e=true->D e.on)->Inv2 D m a w->
   wpOp P l.toArray Q i (fun a' w'=>Inv2 (fun j=>D j\/j=i) m a' w') a w)
  (fin:∀ (D:Nat->Prop) a w m,(∀ i,i<l.length->D i)->l.length<=m->Inv2 D m a w->Q .normal a w) :
  wpAny P .any l.toArray Q l.toArray.size (Array.replicate l.toArray.size false) a { w with drawn:=w.drawn+1 }:=by
 refine (Zoh Inv Inv2 hE hT step turn tail float fin _ _ (fun _=>False) a _ (by simp) (fun i=>?_) (fun _ _ _ h=>h.elim) ?_ ?_)
 .constructor
  .exact False.elim
  intro h
  simp only[Array.getD_eq_getD_getElem?,Array.getElem?_replicate] at h
  split at h <;> simp at h
 .unfold toCome
  have:=List.length_filter_le (fun i=>!(Array.replicate l.toArray.size false).getD i false) (List.range l.length)
  simpa using this
 by_cases hex:∃ i,i<fl.length/\i<l.length/\fl.getD i false=false
 .obtain⟨i,h1,h2,h3⟩:=hex
  exact .inl ⟨⟨i,h1,h2,h3,fun h=>h⟩,fun _ _ h=>h,hI⟩
 have hall:∀ i,i<fl.length->i<l.length->fl.getD i false=false->False:=fun i h1 h2 h3=>hex ⟨i,h1,h2,h3⟩
 exact .inr ⟨fl.length,Nat.le_refl _,hall,fun i h1 h2 _=>by omega,fun _ _ h=>h,turn _ a _ (fun _ _ _ h=>h.elim) hall (fun _ _ h=>h) hI⟩
end
end Go.EL
namespace Go.EL
open Go.IntKind (i8 i16 i32 i64 u8 u16 u32 u64)
open Go Go.RowKit
abbrev Mem:=Nat->Nat->Option Value
def Mem.le(G G':Mem):Prop:=∀ b o v,G b o=some v->G' b o=some v
theorem Mem.le_refl(G:Mem):Mem.le G G:=fun _ _ _ h=>h
theorem Mem.le_trans{A B C:Mem}(h:Mem.le A B)(k:Mem.le B C):Mem.le A C:=fun b o v e=>k b o v (h b o v e)
def Imm(G:Mem)(w:World):Prop:=∀ b o v,G b o=some v->w.cell? ⟨b,o,none⟩=some v
theorem Imm.lt{G:Mem}{w:World}(h:Imm G w){b o:Nat}{v:Value}(e:G b o=some v):b<w.heap.size:=World.block_lt_of_cell? w _ (h b o v e)
structure Ow where
 b:Nat
 o:Obj
 m:Nat
abbrev Lo:=List (Nat×Option Ow)
def Lo.get:Lo->Nat->Option Ow
 | [],_=>none
 | p::r,i=>bif Nat.beq p.1 i then p.2 else Lo.get r i
def Lo.sub(L' L:Lo):Prop:=∀ i x,L'.get i=some x->L.get i=some x
theorem Lo.Zt(L:Lo):Lo.sub [] L:=fun t v h=>by simp[Lo.get] at h
theorem Lo.Zb3(L:Lo):Lo.sub L L:=fun _ _ h=>h
theorem Lo.Zi{L:Lo}{i j:Nat}{x:Option Ow}:Lo.get ((i,x)::L) j=if i=j then x else L.get j:=by
 simp only[Lo.get]
 by_cases e:i=j
 .subst e; simp
 have:Nat.beq i j=false:=by cases hb:Nat.beq i j; rfl; exact absurd (Nat.eq_of_beq_eq_true hb) e
 simp[this,e]
theorem Lo.Zd{L' L:Lo}{i:Nat}{x:Option Ow}(h:L.get i=x)(hs:Lo.sub L' L):Lo.sub ((i,x)::L') L:=by
 intro u y hy
 rw[Lo.Zi] at hy
 split at hy
 .rename_i e; subst e; rw[h]; exact hy
 exact hs u y hy
theorem Lo.Zlp{L' L:Lo}{i:Nat}(hs:Lo.sub L' L):Lo.sub ((i,none)::L') L:=by
 intro u y hy
 rw[Lo.Zi] at hy
 split at hy
 .cases hy
 exact hs u y hy
def Lo.own(L:Lo)(b o:Nat):Prop:=∃ i y,L.get i=some y/\y.b=b/\y.m<=o
theorem Lo.ZpV{b o:Nat}(h:Lo.own [] b o):False:=by obtain⟨i,y,h1,_⟩:=h; simp[Lo.get] at h1
structure Bs where
 w:World
 L:Lo
structure St (w0:Bs) (G0 G:Mem) (L:Lo) (w:World):Prop where
 os:w.os=w0.w.os
 tape:w.tape=w0.w.tape
 output:w.output=w0.w.output
 drawn:w0.w.drawn<=w.drawn
 size:w0.w.heap.size<=w.heap.size
 block:∀ k,k<w0.w.heap.size->(∀ i y,w0.L.get i=some y->y.b≠k)->w.heap[k]? = w0.w.heap[k]?
 base:Mem.le G0 G
 imm:Imm G w
 fresh:∀ b o v,G b o=some v->G0 b o=some v\/w0.w.heap.size<=b\/w0.L.own b o
 loc:∀ i x,L.get i=some x->w.heap[x.b]? = some x.o/\((∃ y,w0.L.get i=some y/\y.b=x.b)\/w0.w.heap.size<=x.b)/\∀ k,x.m<=k->G x.b k=none
 dist:∀ i j x y,i≠j->L.get i=some x->L.get j=some y->x.b≠y.b
theorem St.weaken{w0:Bs}{G0 G:Mem}{L L':Lo}{w:World}(h:St w0 G0 G L w)(hs:Lo.sub L' L):St w0 G0 G L' w:=
 { h with loc:=fun i x e=>h.loc i x (hs _ _ e),dist:=fun i j x y hne e e'=>h.dist i j x y hne (hs _ _ e) (hs _ _ e') }
theorem St.memLe{w0:Bs}{G0 G G':Mem}{L:Lo}{w:World}(h:St w0 G0 G' L w)(hb:Mem.le G0 G)(hs:Mem.le G G'):St w0 G0 G L w:=
 { h with
  base:=hb
  imm:=fun b o v e=>h.imm b o v (hs b o v e)
  fresh:=fun b o v e=>h.fresh b o v (hs b o v e)
  loc:=fun i x e=>⟨(h.loc i x e).1,(h.loc i x e).2.1,fun k hk=>by
   have:=(h.loc i x e).2.2 k hk
   cases hg:G x.b k with
   | none=>rfl
   | some v=>rw[hs x.b k v hg] at this; cases this⟩ }
theorem St.drew{w0:Bs}{G0 G:Mem}{L:Lo}{w:World}(h:St w0 G0 G L w):St w0 G0 G L { w with drawn:=w.drawn+1 }:=
 ⟨h.os,h.tape,h.output,Nat.le_succ_of_le h.drawn,h.size,h.block,h.base,h.imm,h.fresh,h.loc,h.dist⟩
structure Hp (G:Mem) (L:Lo) (w:World):Prop where
 imm:Imm G w
 loc:∀ i x,L.get i=some x->w.heap[x.b]? = some x.o/\∀ k,x.m<=k->G x.b k=none
 dist:∀ i j x y,i≠j->L.get i=some x->L.get j=some y->x.b≠y.b
structure Ext (w:World) (G:Mem) (L:Lo) (w':World) (G':Mem) (L':Lo):Prop where
 os:w'.os=w.os
 tape:w'.tape=w.tape
 output:w'.output=w.output
 drawn:w.drawn<=w'.drawn
 size:w.heap.size<=w'.heap.size
 block:∀ k,k<w.heap.size->(∀ i y,L.get i=some y->y.b≠k)->w'.heap[k]? = w.heap[k]?
 le:Mem.le G G'
 imm:Imm G' w'
 fresh:∀ b o v,G' b o=some v->G b o=some v\/w.heap.size<=b\/L.own b o
 loc:∀ i x,L'.get i=some x->w'.heap[x.b]? = some x.o/\((∃ y,L.get i=some y/\y.b=x.b)\/w.heap.size<=x.b)/\∀ k,x.m<=k->G' x.b k=none
 dist:∀ i j x y,i≠j->L'.get i=some x->L'.get j=some y->x.b≠y.b
theorem St.ext{w0:Bs}{G0 G G':Mem}{L L1 L2 R L3:Lo}{w w':World}(h:St w0 G0 G L w)(e:Ext w G L1 w' G' L2)(h1:Lo.sub L1 L)(hR:Lo.sub R L)(hno:∀ i x,R.get i=some x->L1.get i=none)
  (hm:∀ i x y,L1.get i=some x->L.get i=some y->∀ z,w0.L.get i=some z->z.m<=x.m)
  (h3:∀ i x,L3.get i=some x->L2.get i=some x\/R.get i=some x):St w0 G0 G' L3 w':=by
 have lt:∀ i x,L.get i=some x->x.b<w.heap.size:=fun i x hi=>(Array.getElem?_eq_some_iff.1 (h.loc i x hi).1).1
 have rest:∀ i x,R.get i=some x->w'.heap[x.b]? = some x.o/\((∃ y,w0.L.get i=some y/\y.b=x.b)\/w0.w.heap.size<=x.b)/\∀ k,x.m<=k->G' x.b k=none:=by
  intro i x hi
  obtain⟨m1,m2,m3⟩:=h.loc i x (hR _ _ hi)
  have hb:=lt i x (hR _ _ hi)
  have hne:∀ j y,L1.get j=some y->y.b≠x.b:=fun j y hj=>by
   have hij:j≠i:=fun e'=>by subst e'; rw[hno j _ hi] at hj; cases hj
   exact h.dist j i y x hij (h1 _ _ hj) (hR _ _ hi)
  refine⟨?_,m2,fun k hk=>?_⟩
  .rw[e.block x.b hb hne]; exact m1
  cases hg:G' x.b k with
  | none=>rfl
  | some v=>
   rcases e.fresh x.b k v hg with h'|h'|⟨j,y,hj,hy,_⟩
   .rw[m3 k hk] at h'; cases h'
   .omega
   exact absurd hy (hne j y hj)
 have both:∀ i x,L2.get i=some x\/R.get i=some x->w'.heap[x.b]? = some x.o/\((∃ y,w0.L.get i=some y/\y.b=x.b)\/w0.w.heap.size<=x.b)/\∀ k,x.m<=k->G' x.b k=none:=by
  intro i x hx
  rcases hx with hx|hx
  .obtain⟨m1,m2,m3⟩:=e.loc i x hx
   refine⟨m1,?_,m3⟩
   rcases m2 with ⟨y,hy,hyb⟩|m2
   .rcases (h.loc i y (h1 _ _ hy)).2.1 with ⟨z,hz,hzb⟩|hz
    .exact .inl ⟨z,hz,hzb.trans hyb⟩
    exact .inr (by rw[<- hyb]; exact hz)
   exact .inr (Nat.le_trans h.size m2)
  exact rest i x hx
 refine⟨e.os.trans h.os,e.tape.trans h.tape,e.output.trans h.output,Nat.le_trans h.drawn e.drawn,Nat.le_trans h.size e.size,fun k hk hn=>?_,Mem.le_trans h.base e.le,e.imm,fun b o v hv=>?_,fun i x hi=>both i x (h3 i x hi),fun i j x y hne hi hj=>?_⟩
 .have hs:=h.size
  rw[e.block k (by omega) (fun i y hi hy=>?_)]
  .exact h.block k hk hn
  obtain⟨m1,m2,_⟩:=h.loc i y (h1 _ _ hi)
  rcases m2 with ⟨z,m2,hzb⟩|m2
  .exact hn i z m2 (hzb.trans hy)
  omega
 .rcases e.fresh b o v hv with h'|h'|⟨i,y,hi,hyb,hym⟩
  .exact h.fresh b o v h'
  .exact .inr (.inl (Nat.le_trans h.size h'))
  rcases (h.loc i y (h1 _ _ hi)).2.1 with ⟨z,hz,hzb⟩|hz
  .exact .inr (.inr ⟨i,z,hz,hzb.trans hyb,Nat.le_trans (hm i y y hi (h1 _ _ hi) z hz) hym⟩)
  exact .inr (.inl (by rw[<- hyb]; exact hz))
 rcases h3 i x hi with hi|hi <;> rcases h3 j y hj with hj|hj
 .exact e.dist i j x y hne hi hj
 .rcases (e.loc i x hi).2.1 with ⟨z,hz,hzb⟩|hz
  .rw[<- hzb]; exact h.dist i j z y hne (h1 _ _ hz) (hR _ _ hj)
  have:=lt j y (hR _ _ hj); omega
 .rcases (e.loc j y hj).2.1 with ⟨z,hz,hzb⟩|hz
  .rw[<- hzb]; exact h.dist i j x z hne (hR _ _ hi) (h1 _ _ hz)
  have:=lt i x (hR _ _ hi); omega
 exact h.dist i j x y hne (hR _ _ hi) (hR _ _ hj)
def RetL(w0:Bs)(G:Mem)(post:Mem->Lo->Value->Prop)(e:Ending)(w':World):Prop:=∃ r G' L',e = .returned r/\Ext w0.w G w0.L w' G' L'/\post G' L' r
abbrev RetTo(w0:Bs)(G:Mem)(post:Mem->Value->Prop):=RetL w0 G (fun G' _ r=>post G' r)
def CtrL(P:Program)(f:FuncId)(args:Array Value)(L:Lo)(pre:Mem->Prop)(post:Mem->Lo->Value->Prop):Prop:=
 ∀ w G,Hp G L w->pre G->Calls P f args w (RetL ⟨w,L⟩ G post)
abbrev Ctr(P:Program)(f:FuncId)(args:Array Value)(pre:Mem->Prop)(post:Mem->Value->Prop):Prop:=CtrL P f args [] pre (fun G _ r=>post G r)
theorem CtrL.mono{P:Program}{f:FuncId}{args:Array Value}{L:Lo}{pre pre':Mem->Prop}{post post':Mem->Lo->Value->Prop}(h:CtrL P f args L pre post)(hp:∀ G,pre' G->pre G)
  (hq:∀ G L r,post G L r->post' G L r):CtrL P f args L pre' post':=fun w G hi hG=>(h w G hi (hp G hG)).mono fun _ _ ⟨r,G',L',h1,h2,h3⟩=>⟨r,G',L',h1,h2,hq _ _ _ h3⟩
def OpRes(P:Program):Result Next->(Value->World->Prop)->Prop
 | .ok (.value v) w',Φ=>Φ v w'
 | .ok .skip w',Φ=>Φ undef w'
 | .ok (.enter f args) w',Φ=>Calls P f args w' (fun e w''=>∃ r,e = .returned r/\Φ r w'')
 | _,_=>False
theorem OpRes.mono{P:Program}{r:Result Next}{Φ Φ':Value->World->Prop}(h:OpRes P r Φ)(hk:∀ v w,Φ v w->Φ' v w):OpRes P r Φ':=by
 cases r with
 | ok n w=>
  cases n <;> simp only[OpRes] at h ⊢
  case value v=>exact hk _ _ h
  case skip=>exact hk _ _ h
  case enter f args=>exact h.mono fun e w'' ⟨r,h1,h2⟩=>⟨r,h1,hk _ _ h2⟩
 | halt x w=>exact h
theorem OpRes.wp{P:Program}{o:Oper}{a:Act}{w:World}{Φ:Value->World->Prop}{K:Act->World->Prop}{Q:Post}(h:OpRes P ((execOp a.eval o).run P w) Φ)(hk:∀ v w',Φ v w'->K (a.put o.dst v) w'):o.wp P a w K Q:=by
 unfold Oper.wp
 generalize (execOp a.eval o).run P w=r at h ⊢
 cases r with
 | ok n w'=>
  cases n <;> simp only[OpRes] at h <;> simp only[Oper.upon]
  case value v=>exact hk _ _ h
  case skip=>exact hk _ _ h
  case enter f args=>exact h.mono fun e w'' ⟨r,h1,h2⟩=>by subst h1; exact hk _ _ h2
 | halt x w=>exact h.elim
def YR(P:Program)(N:Nat)(o:Oper)(fr:Fr)(S:Asrt)(Φ:Value->World->Prop):Prop:=∀ a w,Rel N fr a->S w->OpRes P ((execOp a.eval o).run P w) Φ
section
variable {P:Program}{N:Nat}{Q:Post}{fr:Fr}{S:Asrt}{ops:Array Oper}{l:List Oper}
theorem WL.yr{dst:Option Nat}{op:Op}{ty:TypeId}{pos:String}{af:Array Edge}{g:Option (Nat×Bool)}{Φ:Value->Asrt}
  (hg:guardOK ops fr ⟨dst,op,ty,pos,af,g⟩ true) (h:YR P N ⟨dst,op,ty,pos,af,g⟩ fr S Φ) (hd:dstOK N dst) (k:∀ v,WL P N ops Q l (putFr dst v fr) (Φ v)):WL P N ops Q (⟨dst,op,ty,pos,af,g⟩::l) fr S:=by
 intro a w ha hs
 unfold wpList
 rw[if_pos (ha.wanted hg)]
 exact .inl ((h a w ha hs).wp fun v w' hv=>k v _ w' (ha.putFr v hd) hv)
end
def NX(Q:Post):Post:=fun e a w=>match e with | .normal=>Q .normal a w|_=>False
theorem WE.nx{N:Nat}{Q:Post}{fr:Fr}{S:Asrt}(h:WE N Q .normal fr S):WE N (NX Q) .normal fr S:=h
abbrev Xm:=Nat->Option (Nat×Obj)
structure Gx where
 m:Mem
 x:Xm
def Gx.of(G:Mem):Gx:=⟨G,fun _=>none⟩
def Gx.le(g g':Gx):Prop:=Mem.le g.m g'.m/\∀ b y,g.x b=some y->g'.x b=some y
theorem Gx.le_refl(g:Gx):Gx.le g g:=⟨Mem.le_refl _,fun _ _ h=>h⟩
theorem Gx.le_trans{a b c:Gx}(h:Gx.le a b)(k:Gx.le b c):Gx.le a c:=⟨Mem.le_trans h.1 k.1,fun x y e=>k.2 x y (h.2 x y e)⟩
def Gx.leE(d:Nat)(g g':Gx):Prop:=Mem.le g.m g'.m/\∀ b o,g.x b=some (d,o)->g'.x b=some (d,o)
def Gx.leO(k:Option Nat)(g g':Gx):Prop:=Mem.le g.m g'.m/\∀ b i o,g.x b=some (i,o)->k≠some i->g'.x b=some (i,o)
theorem Gx.le.leO{g g':Gx}(h:Gx.le g g'):Gx.leO none g g':=⟨h.1,fun b i o e _=>h.2 b _ e⟩
theorem Gx.leO.le{g g':Gx}(h:Gx.leO none g g'):Gx.le g g':=⟨h.1,fun b y e=>h.2 b y.1 y.2 e (by simp)⟩
theorem Gx.leO.leE{g g':Gx}{k:Option Nat}{d:Nat}(h:Gx.leO k g g')(hne:k≠some d):Gx.leE d g g':=⟨h.1,fun b o e=>h.2 b d o e hne⟩
theorem Gx.Zqq{G:Mem}{g g':Gx}{k:Option Nat}(h:Gx.le (Gx.of G) g)(h':Gx.leO k g g'):Gx.le (Gx.of G) g':=⟨Mem.le_trans h.1 h'.1,fun b y e=>by cases e⟩
structure StX (w0:Bs) (G0:Mem) (g:Gx) (L:Lo) (w:World):Prop where
 st:St w0 G0 g.m L w
 own:∀ b i o,g.x b=some (i,o)->w.heap[b]? = some o/\w0.w.heap.size<=b/\(∀ k,g.m b k=none)/\∀ j y,L.get j=some y->y.b≠b
theorem StX.of{w0:Bs}{G0 G:Mem}{L:Lo}{w:World}(h:St w0 G0 G L w):StX w0 G0 (Gx.of G) L w:=⟨h,fun b i o e=>by cases e⟩
abbrev Und:=List (Nat×(Value->Gx->Prop))
def undFr:Und->(Nat->Value)->Fr
 | [],_=>[]
 | p::r,u=>(p.1,u p.1)::undFr r u
def undAll:Und->(Nat->Value)->Gx->Prop
 | [],_,_=>True
 | p::r,u,G=>p.2 (u p.1) G/\undAll r u G
def undLook(ops:Array Oper)(o:Oper):Und->(Nat->Value)->Gx->Prop
 | [],_,_=>True
 | p::r,u,G=>(bif (o.looksAt ops).contains p.1 then p.2 (u p.1) G else True)/\undLook ops o r u G
def eatO:Option Nat->Und->Und
 | none,und=>und
 | some k,und=>und.map fun p=>(p.1,fun v g=>bif Nat.beq p.1 k then True else p.2 v g)
def soleB(ops:Array Oper)(k:Nat):Bool:=Nat.ble (ops.toList.filter fun o=>(o.looksAt ops).contains k).length 1
def wpListT(P:Program)(ops:Array Oper)(T:Asrt)(Q:Post):List Oper->Act->World->Prop
 | [],a,w=>T w/\Q .normal a w
 | o::r,a,w=>T w/\if Region.wanted o (yielded ops a.tmps) then o.wp P a w (wpListT P ops T Q r) Q else wpListT P ops T Q r (a.put o.dst undef) w
def WLT(P:Program)(N:Nat)(ops:Array Oper)(T:Asrt)(Q:Post)(l:List Oper)(fr:Fr)(S:Asrt):Prop:=∀ a w,Rel N fr a->S w->wpListT P ops T Q l a w
theorem Oper.Zlw{P:Program}{o:Oper}{a:Act}{w:World}{K K':Act->World->Prop}{Q:Post}(hK:∀ a w,K a w->K' a w)(h:o.wp P a w K Q):o.wp P a w K' Q:=by
 unfold Oper.wp at h ⊢
 generalize (execOp a.eval o).run P w=r at h ⊢
 cases r with
 | ok x w'=>
  cases x <;> simp only[Oper.upon] at h ⊢
  case value v=>exact hK _ _ h
  case skip=>exact hK _ _ h
  case defer d=>exact hK _ _ h
  case enter f args=>
   refine Calls.mono h fun e w'' he=>?_
   cases e with
   | returned v=>exact hK _ _ he
   | panicked c=>exact he
   | outgrown=>exact he
  case row row args=>exact Rows.mono h fun v w'' he=>hK _ _ he
 | halt x w'=>cases x <;> simp only[Oper.upon] at h ⊢; exact h
theorem Zgi{P:Program}{ops:Array Oper}{Q:Post}:∀ (l:List Oper) (a:Act) (w:World),wpList P ops (NX Q) l a w->wpListT P ops (fun _=>True) (NX Q) l a w
 | [],a,w,h=>⟨trivial,h⟩
 | o::r,a,w,h=>by
  unfold wpList at h
  refine⟨trivial,?_⟩
  split at h
  .rename_i hw
   rw[if_pos hw]
   rcases h with h|⟨_,a₀,w₀,hq⟩
   .exact Oper.Zlw (fun a w=>Zgi r a w) h
   exact hq.elim
  rename_i hw
  rw[if_neg hw]
  exact Zgi r _ _ h
theorem WLT.of{P:Program}{N:Nat}{ops:Array Oper}{Q:Post}{l:List Oper}{fr:Fr}{S:Asrt}(h:WL P N ops (NX Q) l fr S):WLT P N ops (fun _=>True) (NX Q) l fr S:=fun a w ha hs=>Zgi l a w (h a w ha hs)
section
variable (P:Program) (N:Nat) (Q:Post) (fr:Fr) (w0:Bs) (G0 G:Mem) (L:Lo) (ops:Array Oper) (Bt:Asrt)
def OpOKO(k:Option Nat)(F:Fr)(G':Gx)(o:Oper)(Ψ:Value->Gx->Prop):Prop:=
 (guardOK ops F o false/\k=none/\Ψ undef G')\/
 (guardOK ops F o true/\YR P N o F (StX w0 G0 G' L) (fun v w'=>∃ G'',Gx.leO k G' G''/\StX w0 G0 G'' L w'/\Ψ v G''))
def OpOK(F:Fr)(G':Gx)(o:Oper)(Ψ:Value->Gx->Prop):Prop:=
 (guardOK ops F o false/\Ψ undef G')\/
 (guardOK ops F o true/\YR P N o F (StX w0 G0 G' L) (fun v w'=>∃ G'',Gx.le G' G''/\StX w0 G0 G'' L w'/\Ψ v G''))
def Chain:List Bool->List Oper->Fr->Und->Prop
 | [],rest,det,und=>∀ u G',Gx.le (Gx.of G) G'->undAll und u G'->WLT P N ops Bt (NX Q) rest (undFr und u++(det++fr)) (StX w0 G0 G' L)
 | _::_,[],det,und=>∀ u G',Gx.le (Gx.of G) G'->undAll und u G'->WLT P N ops Bt (NX Q) [] (undFr und u++(det++fr)) (StX w0 G0 G' L)
 | true::fs,o::r,det,und=>
  (∃ c,(∀ u G',Gx.le (Gx.of G) G'->undLook ops o und u G'->guardOK ops (undFr und u++(det++fr)) o true/\Y0 P N o (undFr und u++(det++fr)) Bt c)/\Chain fs r (putFr o.dst c det) und)\/
  (∃ d φ,∃ c:(Nat->Value)->Value,o.dst=some d/\(∀ v G₁ G₂,Gx.leE d G₁ G₂->φ v G₁->φ v G₂)/\(∀ u u':Nat->Value,(∀ t,t ∈ o.looksAt ops->u t=u' t)->c u=c u')/\(∀ u G',Gx.le (Gx.of G) G'->undLook ops o und u G'->guardOK ops (undFr und u++(det++fr)) o true/\Y0 P N o (undFr und u++(det++fr)) Bt (c u)/\φ (c u) G')/\Chain fs r det ((d,φ)::und))
 | false::fs,o::r,det,und=>
  (∃ c,(∀ u G',Gx.le (Gx.of G) G'->undLook ops o und u G'->OpOK P N w0 G0 L ops (undFr und u++(det++fr)) G' o (fun v _=>v=c))/\Chain fs r (putFr o.dst c det) und)\/
  (∃ d φ,o.dst=some d/\(∀ v G₁ G₂,Gx.leE d G₁ G₂->φ v G₁->φ v G₂)/\(∀ u G',Gx.le (Gx.of G) G'->undLook ops o und u G'->OpOK P N w0 G0 L ops (undFr und u++(det++fr)) G' o φ)/\Chain fs r det ((d,φ)::und))\/
  (∃ d φ k,o.dst=some d/\und.any (fun p=>Nat.beq p.1 k)=true/\(o.looksAt ops).contains k=true/\soleB ops k=true/\(∀ v G₁ G₂,Gx.leE d G₁ G₂->φ v G₁->φ v G₂)/\(∀ u G',Gx.le (Gx.of G) G'->undLook ops o und u G'->OpOKO P N w0 G0 L ops (some k) (undFr und u++(det++fr)) G' o φ)/\Chain fs r det ((d,φ)::eatO (some k) und))
theorem OpOK.o{P:Program}{N:Nat}{w0:Bs}{G0:Mem}{L:Lo}{ops:Array Oper}{F:Fr}{G':Gx}{o:Oper}{Ψ:Value->Gx->Prop}(h:OpOK P N w0 G0 L ops F G' o Ψ):OpOKO P N w0 G0 L ops none F G' o Ψ:=
 h.imp (fun h=>⟨h.1,rfl,h.2⟩) fun h=>⟨h.1,fun a w ha hs=>(h.2 a w ha hs).mono fun _ _ ⟨g,h1,h2,h3⟩=>⟨g,h1.leO,h2,h3⟩⟩
end
end Go.EL
namespace Go.EL
open Go.IntKind (i8 i16 i32 i64 u8 u16 u32 u64)
open Go Go.RowKit
abbrev Ent:=Value⊕(Option Nat×(Value->Gx->Prop))
def Ent.val(e:Ent)(u:Nat->Value)(t:Nat):Value:=match e with | .inl c=>c | .inr _=>u t
def Ent.post:Ent->Value->Gx->Prop
 | .inl c=>fun v _=>v=c
 | .inr φ=>φ.2
def Ent.eat:Ent->Option Nat
 | .inl _=>none
 | .inr φ=>φ.1
abbrev Tab:=List (Oper×Ent)
def detT:Tab->Fr->Fr
 | [],det=>det
 | (o,.inl c)::r,det=>detT r (putFr o.dst c det)
 | (_,.inr _)::r,det=>detT r det
def undT:Tab->Und->Und
 | [],und=>und
 | (_,.inl _)::r,und=>undT r und
 | (o,.inr φ)::r,und=>undT r (match o.dst with|some d=>(d,φ.2)::eatO φ.1 und|none=>und)
theorem Zf0{k:Option Nat}{und:Und}{p:Nat×(Value->Gx->Prop)}(h:p ∈ eatO k und):∃ q ∈ und,p.1=q.1/\∀ v g,(k≠some q.1->p.2 v g=q.2 v g)/\(k=some q.1->p.2 v g=True):=by
 cases k with
 | none=>exact⟨p,h,rfl,fun v g=>⟨fun _=>rfl,fun e=>by cases e⟩⟩
 | some k=>
  obtain⟨q,hq,rfl⟩:=List.mem_map.1 h
  refine⟨q,hq,rfl,fun v g=>⟨fun hne=>?_,fun e=>?_⟩⟩
  .have:Nat.beq q.1 k=false:=by cases hb:Nat.beq q.1 k; rfl; exact absurd (congrArg some (Nat.eq_of_beq_eq_true hb).symm) hne
   simp only[this,cond_false]
  cases e
  simp
theorem Zoe(k:Option Nat)(u:Nat->Value):∀ und:Und,undFr (eatO k und) u=undFr und u:=by
 cases k with
 | none=>exact fun _=>rfl
 | some k=>
  intro und
  induction und with
  | nil=>rfl
  | cons p r ih=>simp only[eatO,List.map_cons,undFr] at ih ⊢; rw[ih]
theorem Fr.get_append(A B:Fr)(t:Nat):Fr.get (A++B) t=(A.get t).or (B.get t):=by
 induction A with
 | nil=>simp[Fr.get]
 | cons p A ih=>
  simp only[List.cons_append,Fr.get]
  cases Nat.beq p.1 t <;> simp[ih]
theorem Fr.Zi(t:Nat)(v:Value)(A:Fr)(s:Nat):Fr.get ((t,v)::A) s=if t=s then some v else A.get s:=by
 simp only[Fr.get]
 by_cases e:t=s
 .subst e; simp
 have:Nat.beq t s=false:=by cases hb:Nat.beq t s; rfl; exact absurd (Nat.eq_of_beq_eq_true hb) e
 simp[this,e]
theorem ZjG{und:Und}{u:Nat->Value}{t:Nat}(h:∀ p ∈ und,p.1≠t):(undFr und u).get t=none:=by
 induction und with
 | nil=>rfl
 | cons p r ih=>
  simp only[undFr]
  rw[Fr.Zi,if_neg (h p (by simp))]
  exact ih (fun q hq=>h q (by simp[hq]))
section
variable {fr:Fr}{u:Nat->Value}
theorem Zif:∀ (T:Tab) (det:Fr) (und:Und) (t:Nat),(∀ p ∈ und,∀ q ∈ T,q.1.dst≠some p.1)->(∀ (j₁ j₂:Nat) (q₁ q₂:Oper×Ent) (d:Nat),T[j₁]? = some q₁->T[j₂]? = some q₂->q₁.1.dst=some d->q₂.1.dst=some d->j₁=j₂)->(∀ q ∈ T,∀ φ,q.2 = .inr φ->q.1.dst.isSome=true)->
  ((∀ q ∈ T,q.1.dst≠some t)->Fr.get (undFr (undT T und) u++(detT T det++fr)) t=Fr.get (undFr und u++(det++fr)) t)/\
  (∀ q ∈ T,q.1.dst=some t->Fr.get (undFr (undT T und) u++(detT T det++fr)) t=some (q.2.val u t))
 | [],det,und,t,_,_,_=>⟨fun _=>rfl,fun q hq=>by simp at hq⟩
 | (o,.inl c)::r,det,und,t,h1,h2,h3=>by
  have h2':∀ j₁ j₂ (q₁ q₂:Oper×Ent) d,r[j₁]? = some q₁->r[j₂]? = some q₂->q₁.1.dst=some d->q₂.1.dst=some d->j₁=j₂:=fun j₁ j₂ q₁ q₂ d a b c d'=>by
   have:=h2 (j₁+1) (j₂+1) q₁ q₂ d (by simpa using a) (by simpa using b) c d'
   omega
  obtain⟨ih1,ih2⟩:=Zif r (putFr o.dst c det) und t (fun p hp q hq=>h1 p hp q (by simp[hq])) h2' (fun q hq=>h3 q (by simp[hq]))
  simp only[detT,undT]
  refine⟨fun hn=>?_,fun q hq hd=>?_⟩
  .rw[ih1 (fun q hq=>hn q (by simp[hq]))]
   have ho:o.dst≠some t:=hn (o,.inl c) (by simp)
   rw[Fr.get_append,Fr.get_append,Fr.get_append,Fr.get_append]
   congr 2
   cases hd:o.dst with
   | none=>rfl
   | some d=>simp only[putFr]; rw[Fr.Zi,if_neg (fun e=>ho (by rw[hd,e]))]
  rcases List.mem_cons.1 hq with rfl|hq
  .have hn:∀ q ∈ r,q.1.dst≠some t:=fun q hq' he=>by
    obtain⟨j,hj⟩:=List.getElem?_of_mem hq'
    have:=h2 0 (j+1) (o,.inl c) q t (by simp) (by simpa using hj) hd he
    omega
   rw[ih1 hn,Fr.get_append,ZjG (fun p hp e=>h1 p hp (o,.inl c) (by simp) (by rw[hd,e])),Fr.get_append]
   simp only at hd
   rw[hd]
   simp[putFr,Fr.Zi,Ent.val]
  exact ih2 q hq hd
 | (o,.inr φ)::r,det,und,t,h1,h2,h3=>by
  have h2':∀ j₁ j₂ (q₁ q₂:Oper×Ent) d,r[j₁]? = some q₁->r[j₂]? = some q₂->q₁.1.dst=some d->q₂.1.dst=some d->j₁=j₂:=fun j₁ j₂ q₁ q₂ d a b c d'=>by
   have:=h2 (j₁+1) (j₂+1) q₁ q₂ d (by simpa using a) (by simpa using b) c d'
   omega
  obtain⟨d,hd0⟩:=Option.isSome_iff_exists.1 (h3 (o,.inr φ) (by simp) φ rfl)
  simp only at hd0
  have hnr:∀ q ∈ r,q.1.dst≠some d:=fun q hq' he=>by
   obtain⟨j,hj⟩:=List.getElem?_of_mem hq'
   have:=h2 0 (j+1) (o,.inr φ) q d (by simp) (by simpa using hj) hd0 he
   omega
  obtain⟨ih1,ih2⟩:=Zif r det ((d,φ.2)::eatO φ.1 und) t (fun p hp q hq=>by
   rcases List.mem_cons.1 hp with rfl|hp
   .exact hnr q hq
   obtain⟨p0,hp0,e,_⟩:=Zf0 hp
   rw[e]
   exact h1 p0 hp0 q (by simp[hq])) h2' (fun q hq=>h3 q (by simp[hq]))
  simp only[detT,undT,hd0]
  refine⟨fun hn=>?_,fun q hq hd=>?_⟩
  .rw[ih1 (fun q hq=>hn q (by simp[hq]))]
   have ho:o.dst≠some t:=hn (o,.inr φ) (by simp)
   simp only[undFr,Zoe,List.cons_append]
   rw[Fr.Zi,if_neg (fun e=>ho (by rw[hd0,e]))]
  rcases List.mem_cons.1 hq with rfl|hq
  .simp only at hd
   have hdt:d=t:=by rw[hd0] at hd; simpa using hd
   subst hdt
   rw[ih1 hnr]
   simp only[undFr,List.cons_append]
   rw[Fr.Zi,if_pos rfl]
   rfl
  exact ih2 q hq hd
theorem ZcJ:∀ (T:Tab) (und:Und) (p:Nat×(Value->Gx->Prop)),p ∈ undT T und->(∃ q,q ∈ und/\p.1=q.1/\(¬ (∀ v g,p.2 v g)->∀ v g,p.2 v g=q.2 v g)/\(¬ (∀ v g,p.2 v g)->∀ (i:Nat) (q:Oper×Ent),T[i]? = some q->q.1.dst.isSome=true->q.2.eat≠some p.1))\/(∀ v g,p.2 v g)\/
  ∃ (j:Nat) (o:Oper) (φ:Option Nat×(Value->Gx->Prop)),T[j]? = some (o,(.inr φ:Ent))/\o.dst=some p.1/\(∀ v g,p.2 v g=φ.2 v g)/\∀ (i:Nat) (q:Oper×Ent),j<i->T[i]? = some q->q.1.dst.isSome=true->q.2.eat≠some p.1
 | [],und,p,h=>.inl ⟨p,h,rfl,fun _ _ _=>rfl,fun _ i q hq=>by simp at hq⟩
 | (o,.inl c)::r,und,p,h=>by
  rcases ZcJ r und p h with ⟨q,h1,h2,h3,h4⟩|h|⟨j,o',φ,h1,h2,h3,h4⟩
  .refine .inl ⟨q,h1,h2,h3,fun hr i q' hq hds=>?_⟩
   cases i with
   | zero=>simp only[List.getElem?_cons_zero,Option.some.injEq] at hq; subst hq; simp[Ent.eat]
   | succ i=>exact h4 hr i q' (by simpa using hq) hds
  .exact .inr (.inl h)
  refine .inr (.inr ⟨j+1,o',φ,by simpa using h1,h2,h3,fun i q hi hq=>?_⟩)
  obtain⟨i,rfl⟩:∃ i',i=i'+1:=⟨i-1,by omega⟩
  exact h4 i q (by omega) (by simpa using hq)
 | (o,.inr φ)::r,und,p,h=>by
  by_cases hrest:(∀ v g,p.2 v g)
  .exact .inr (.inl hrest)
  have lift:(∃ (j:Nat) (o:Oper) (φ:Option Nat×(Value->Gx->Prop)),r[j]? = some (o,(.inr φ:Ent))/\o.dst=some p.1/\(∀ v g,p.2 v g=φ.2 v g)/\∀ (i:Nat) (q:Oper×Ent),j<i->r[i]? = some q->q.1.dst.isSome=true->q.2.eat≠some p.1)->
    ∃ (j:Nat) (o':Oper) (φ':Option Nat×(Value->Gx->Prop)),((o,(.inr φ:Ent))::r)[j]? = some (o',(.inr φ':Ent))/\o'.dst=some p.1/\(∀ v g,p.2 v g=φ'.2 v g)/\∀ (i:Nat) (q:Oper×Ent),j<i->((o,(.inr φ:Ent))::r)[i]? = some q->q.1.dst.isSome=true->q.2.eat≠some p.1:=by
   rintro⟨j,o',φ',h1,h2,h3,h4⟩
   refine⟨j+1,o',φ',by simpa using h1,h2,h3,fun i q hi hq=>?_⟩
   obtain⟨i,rfl⟩:∃ i',i=i'+1:=⟨i-1,by omega⟩
   exact h4 i q (by omega) (by simpa using hq)
  simp only[undT] at h
  cases hd:o.dst with
  | none=>
   rw[hd] at h
   rcases ZcJ r _ p h with ⟨q,h1,h2,h3,h4⟩|h|h
   .refine .inl ⟨q,h1,h2,h3,fun hr i q' hq hds=>?_⟩
    cases i with
    | zero=>simp only[List.getElem?_cons_zero,Option.some.injEq] at hq; subst hq; simp[hd] at hds
    | succ i=>exact h4 hr i q' (by simpa using hq) hds
   .exact .inr (.inl h)
   exact .inr (.inr (lift h))
  | some d=>
   rw[hd] at h
   rcases ZcJ r _ p h with ⟨q,hq,h2,h3,h4⟩|h|h
   .rcases List.mem_cons.1 hq with rfl|hq
    .refine .inr (.inr ⟨0,o,φ,by simp,by rw[hd,h2],h3 hrest,fun i q hi hq=>?_⟩)
     obtain⟨i,rfl⟩:∃ i',i=i'+1:=⟨i-1,by omega⟩
     exact h4 hrest i q (by simpa using hq)
    obtain⟨p0,hp0,e,he⟩:=Zf0 hq
    by_cases hk:φ.1=some p0.1
    .exact absurd (fun v g=>by rw[h3 hrest v g,(he v g).2 hk]; trivial) hrest
    refine .inl ⟨p0,hp0,h2.trans e,fun hr v g=>by rw[h3 hr v g,(he v g).1 hk],fun hr i q' hq hds=>?_⟩
    cases i with
    | zero=>simp only[List.getElem?_cons_zero,Option.some.injEq] at hq; subst hq; simp only[Ent.eat]; rw[h2,e]; exact hk
    | succ i=>exact h4 hr i q' (by simpa using hq) hds
   .exact .inr (.inl h)
   exact .inr (.inr (lift h))
theorem Zod{und:Und}{u:Nat->Value}{G:Gx}(h:∀ p ∈ und,p.2 (u p.1) G):undAll und u G:=by
 induction und with
 | nil=>trivial
 | cons p r ih=>exact⟨h p (by simp),ih (fun q hq=>h q (by simp[hq]))⟩
theorem Zgg{ops:Array Oper}{o:Oper}{und:Und}{u:Nat->Value}{G:Gx}(h:∀ p ∈ und,p.1 ∈ o.looksAt ops->p.2 (u p.1) G):undLook ops o und u G:=by
 induction und with
 | nil=>trivial
 | cons p r ih=>
  refine⟨?_,ih (fun q hq=>h q (by simp[hq]))⟩
  cases hc:(o.looksAt ops).contains p.1
  .trivial
  exact h p (by simp) (by simpa using hc)
end
section
variable {P:Program}{N:Nat}{Q:Post}{fr:Fr}{w0:Bs}{G0 G:Mem}{L:Lo}{ops:Array Oper}
def Eats(ops:Array Oper)(T:Tab)(und:Und):Prop:=∀ (j:Nat) (o:Oper) (e:Ent) (k:Nat),T[j]? = some (o,e)->e.eat=some k->(o.looksAt ops).contains k=true/\soleB ops k=true/\((∃ p,p ∈ und/\p.1=k)\/∃ (i:Nat) (q:Oper×Ent),i<j/\T[i]? = some q/\q.1.dst=some k)
theorem ZfI{T:Tab}{o:Oper}{e0:Ent}{und und':Und}(h0:∀ k,e0.eat=some k->(o.looksAt ops).contains k=true/\soleB ops k=true/\∃ p ∈ und,p.1=k)
  (t6:Eats ops T und')
  (hu:∀ p ∈ und',(∃ q ∈ und,q.1=p.1)\/o.dst=some p.1):Eats ops ((o,e0)::T) und:=by
 intro j o' e k hj he
 cases j with
 | zero=>
  simp only[List.getElem?_cons_zero,Option.some.injEq,Prod.mk.injEq] at hj
  obtain⟨rfl,rfl⟩:=hj
  obtain⟨h1,h2,h3⟩:=h0 k he
  exact⟨h1,h2,.inl h3⟩
 | succ j=>
  simp only[List.getElem?_cons_succ] at hj
  obtain⟨h1,h2,h3⟩:=t6 j o' e k hj he
  refine⟨h1,h2,?_⟩
  rcases h3 with ⟨p,hp,e⟩|⟨i,q,hi,hq,hd⟩
  .rcases hu p hp with ⟨q,hq,e'⟩|hd
   .exact .inl ⟨q,hq,e'.trans e⟩
   exact .inr ⟨0,(o,e0),by omega,by simp,by rw[<- e]; exact hd⟩
  exact .inr ⟨i+1,q,by omega,by simpa using hq,hd⟩
theorem ZcM{Bt:Asrt}(hBt:∀ (X:Gx) w,Gx.le (Gx.of G) X->StX w0 G0 X L w->Bt w):∀ (fl:List Bool) (rest:List Oper) (det:Fr) (und:Und),Chain P N Q fr w0 G0 G L ops Bt fl rest det und->
  ∃ T:Tab,T.map (·.1)=rest.take fl.length/\
   (∀ j o e,T[j]? = some (o,e)->∀ u G',Gx.le (Gx.of G) G'->undLook ops o (undT (T.take j) und) u G'->OpOKO P N w0 G0 L ops e.eat (undFr (undT (T.take j) und) u++(detT (T.take j) det++fr)) G' o e.post)/\
   (∀ q ∈ T,∀ φ,q.2 = .inr φ->∃ d,q.1.dst=some d/\∀ v G₁ G₂,Gx.leE d G₁ G₂->φ.2 v G₁->φ.2 v G₂)/\
   (∀ j o e,T[j]? = some (o,e)->fl.getD j false=true->(∃ c,e = .inl c/\∀ u G',Gx.le (Gx.of G) G'->undLook ops o (undT (T.take j) und) u G'->guardOK ops (undFr (undT (T.take j) und) u++(detT (T.take j) det++fr)) o true/\Y0 P N o (undFr (undT (T.take j) und) u++(detT (T.take j) det++fr)) Bt c)\/
    (∃ φ,∃ c:(Nat->Value)->Value,e = .inr (none,φ)/\(∀ u u':Nat->Value,(∀ t,t ∈ o.looksAt ops->u t=u' t)->c u=c u')/\∀ u G',Gx.le (Gx.of G) G'->undLook ops o (undT (T.take j) und) u G'->guardOK ops (undFr (undT (T.take j) und) u++(detT (T.take j) det++fr)) o true/\Y0 P N o (undFr (undT (T.take j) und) u++(detT (T.take j) det++fr)) Bt (c u)/\φ (c u) G'))/\
   (∀ u G',Gx.le (Gx.of G) G'->undAll (undT T und) u G'->WLT P N ops Bt (NX Q) (rest.drop fl.length) (undFr (undT T und) u++(detT T det++fr)) (StX w0 G0 G' L))/\
   Eats ops T und
 | [],rest,det,und,h=>⟨[],by simp,by simp,by simp,by simp,by simpa [undT,detT,Chain] using h,by intro j o e k hj; simp at hj⟩
 | f::fs,[],det,und,h=>⟨[],by simp,by simp,by simp,by simp,by cases f <;> simpa [undT,detT,Chain] using h,by intro j o e k hj; simp at hj⟩
 | true::fs,o::r,det,und,h=>by
  simp only[Chain] at h
  rcases h with ⟨c,hp,hr⟩|⟨d,φ,c,hd,hm,hcl,hp,hr⟩
  rotate_left
  .obtain⟨T,t1,t2,t3,t5,t4,t6⟩:=ZcM hBt fs r det _ hr
   refine⟨(o,.inr (none,φ))::T,by simp[t1],fun j o' e hj=>?_,fun q hq=>?_,fun j o' e hj hf=>?_,by simpa [undT,detT,hd,eatO] using t4,?_⟩
   .cases j with
    | zero=>
     simp only[List.getElem?_cons_zero,Option.some.injEq,Prod.mk.injEq] at hj
     obtain⟨rfl,rfl⟩:=hj
     intro u G' hle hul
     simp only[List.take_zero,undT,detT,Ent.post] at hul ⊢
     obtain⟨h1,h2,h3⟩:=hp u G' hle hul
     exact .inr ⟨h1,fun a w ha hs=>by rw[h2 a w ha (hBt _ _ hle hs)]; exact⟨G',(Gx.le_refl _).leO,hs,h3⟩⟩
    | succ j=>
     simp only[List.getElem?_cons_succ] at hj
     simpa [undT,detT,hd,eatO] using t2 j o' e hj
   .rcases List.mem_cons.1 hq with rfl|hq
    .intro φ' he
     cases he
     exact⟨d,hd,hm⟩
    exact t3 q hq
   .cases j with
    | zero=>
     simp only[List.getElem?_cons_zero,Option.some.injEq,Prod.mk.injEq] at hj
     obtain⟨rfl,rfl⟩:=hj
     exact .inr ⟨φ,c,rfl,hcl,by simpa [undT,detT] using hp⟩
    | succ j=>
     simp only[List.getElem?_cons_succ] at hj
     simpa [undT,detT,hd,eatO] using t5 j o' e hj (by simpa using hf)
   exact ZfI (fun _=>by simp[Ent.eat]) t6 (fun p hp=>by
    rcases List.mem_cons.1 hp with rfl|hp
    .exact .inr hd
    exact .inl ⟨p,hp,rfl⟩)
  obtain⟨T,t1,t2,t3,t5,t4,t6⟩:=ZcM hBt fs r _ und hr
  refine⟨(o,.inl c)::T,by simp[t1],fun j o' e hj=>?_,fun q hq=>?_,fun j o' e hj hf=>?_,by simpa [undT,detT] using t4,?_⟩
  .cases j with
   | zero=>
    simp only[List.getElem?_cons_zero,Option.some.injEq,Prod.mk.injEq] at hj
    obtain⟨rfl,rfl⟩:=hj
    intro u G' hle hul
    simp only[List.take_zero,undT,detT,Ent.post] at hul ⊢
    exact .inr ⟨(hp u G' hle hul).1,fun a w ha hs=>by rw[(hp u G' hle hul).2 a w ha (hBt _ _ hle hs)]; exact⟨G',(Gx.le_refl _).leO,hs,rfl⟩⟩
   | succ j=>
    simp only[List.getElem?_cons_succ] at hj
    simpa [undT,detT] using t2 j o' e hj
  .rcases List.mem_cons.1 hq with rfl|hq
   .intro φ he; cases he
   exact t3 q hq
  .cases j with
   | zero=>
    simp only[List.getElem?_cons_zero,Option.some.injEq,Prod.mk.injEq] at hj
    obtain⟨rfl,rfl⟩:=hj
    exact .inl ⟨c,rfl,by simpa [undT,detT] using hp⟩
   | succ j=>
    simp only[List.getElem?_cons_succ] at hj
    simpa [undT,detT] using t5 j o' e hj (by simpa using hf)
  exact ZfI (fun _=>by simp[Ent.eat]) t6 (fun p hp=>.inl ⟨p,hp,rfl⟩) 
 | false::fs,o::r,det,und,h=>by
  simp only[Chain] at h
  rcases h with ⟨c,hp,hr⟩|⟨d,φ,hd,hm,hp,hr⟩|⟨d,φ,k,hd,hka,hkl,hks,hm,hp,hr⟩
  .obtain⟨T,t1,t2,t3,t5,t4,t6⟩:=ZcM hBt fs r _ und hr
   refine⟨(o,.inl c)::T,by simp[t1],fun j o' e hj=>?_,fun q hq=>?_,fun j o' e hj hf=>?_,by simpa [undT,detT] using t4,?_⟩
   .cases j with
    | zero=>
     simp only[List.getElem?_cons_zero,Option.some.injEq,Prod.mk.injEq] at hj
     obtain⟨rfl,rfl⟩:=hj
     intro u G' hle hul
     exact (hp u G' hle (by simpa [undT] using hul)).o
    | succ j=>
     simp only[List.getElem?_cons_succ] at hj
     simpa [undT,detT] using t2 j o' e hj
   .rcases List.mem_cons.1 hq with rfl|hq
    .intro φ he; cases he
    exact t3 q hq
   .cases j with
    | zero=>simp at hf
    | succ j=>
     simp only[List.getElem?_cons_succ] at hj
     simpa [undT,detT] using t5 j o' e hj (by simpa using hf)
   exact ZfI (fun _=>by simp[Ent.eat]) t6 (fun p hp=>.inl ⟨p,hp,rfl⟩)
  .obtain⟨T,t1,t2,t3,t5,t4,t6⟩:=ZcM hBt fs r det _ hr
   refine⟨(o,.inr (none,φ))::T,by simp[t1],fun j o' e hj=>?_,fun q hq=>?_,fun j o' e hj hf=>?_,by simpa [undT,detT,hd,eatO] using t4,?_⟩
   .cases j with
    | zero=>
     simp only[List.getElem?_cons_zero,Option.some.injEq,Prod.mk.injEq] at hj
     obtain⟨rfl,rfl⟩:=hj
     intro u G' hle hul
     exact (hp u G' hle (by simpa [undT] using hul)).o
    | succ j=>
     simp only[List.getElem?_cons_succ] at hj
     simpa [undT,detT,hd,eatO] using t2 j o' e hj
   .rcases List.mem_cons.1 hq with rfl|hq
    .intro φ' he
     cases he
     exact⟨d,hd,hm⟩
    exact t3 q hq
   .cases j with
    | zero=>simp at hf
    | succ j=>
     simp only[List.getElem?_cons_succ] at hj
     simpa [undT,detT,hd,eatO] using t5 j o' e hj (by simpa using hf)
   exact ZfI (fun _=>by simp[Ent.eat]) t6 (fun p hp=>by
    rcases List.mem_cons.1 hp with rfl|hp
    .exact .inr hd
    exact .inl ⟨p,hp,rfl⟩)
  obtain⟨T,t1,t2,t3,t5,t4,t6⟩:=ZcM hBt fs r det _ hr
  refine⟨(o,.inr (some k,φ))::T,by simp[t1],fun j o' e hj=>?_,fun q hq=>?_,fun j o' e hj hf=>?_,by simpa [undT,detT,hd] using t4,?_⟩
  .cases j with
   | zero=>
    simp only[List.getElem?_cons_zero,Option.some.injEq,Prod.mk.injEq] at hj
    obtain⟨rfl,rfl⟩:=hj
    intro u G' hle hul
    exact hp u G' hle (by simpa [undT] using hul)
   | succ j=>
    simp only[List.getElem?_cons_succ] at hj
    simpa [undT,detT,hd] using t2 j o' e hj
  .rcases List.mem_cons.1 hq with rfl|hq
   .intro φ' he
    cases he
    exact⟨d,hd,hm⟩
   exact t3 q hq
  .cases j with
   | zero=>simp at hf
   | succ j=>
    simp only[List.getElem?_cons_succ] at hj
    simpa [undT,detT,hd] using t5 j o' e hj (by simpa using hf)
  refine ZfI (fun k0 h0=>?_) t6 (fun p hp=>?_)
  .simp only[Ent.eat,Option.some.injEq] at h0
   subst h0
   simp only[List.any_eq_true] at hka
   obtain⟨p,hp,e⟩:=hka
   exact⟨hkl,hks,⟨p,hp,Nat.eq_of_beq_eq_true e⟩⟩
  rcases List.mem_cons.1 hp with rfl|hp
  .exact .inr hd
  obtain⟨q,hq,e,_⟩:=Zf0 hp
  exact .inl ⟨q,hq,e.symm⟩
end
def slotsB(N:Nat)(l:List Oper)(n:Nat):Bool:=
 let A:=ancs .any l []
 let ops:=l.toArray
 let L:=(l.take n).zipIdx
 L.all fun p=>(match p.1.dst with
  | none=>true
  | some t=>Nat.blt t N && L.all fun q=>Nat.beq p.2 q.2 || ((match q.1.dst with|none=>true|some s=>!Nat.beq t s) &&
    (!((q.1.looksAt ops).contains t) || bif Nat.blt p.2 q.2 then (A.getD q.2 []).contains p.2 else (A.getD p.2 []).contains q.2)))
def floatB(l:List Oper)(fl:List Bool):Bool:=
 let A:=ancs .any l []
 let ops:=l.toArray
 (List.range fl.length).all fun i=>!fl.getD i false || ((l[i]?).map fun oi=>
  (List.range l.length).all fun k=>((l[k]?).map fun ok=>
   (Nat.blt k fl.length || (((A.getD k []).contains i || (match ok.dst with|none=>true|some t=>!(oi.looksAt ops).contains t && (match oi.dst with|none=>true|some s=>!Nat.beq t s))) &&
    (match oi.dst with|none=>true|some t=>!(ok.looksAt ops).contains t || (A.getD k []).contains i))) &&
   (!(Nat.ble k i && fl.getD k false) || (match oi.dst with|none=>true|some t=>!(ok.looksAt ops).contains t))).getD true).getD true
def drawB(N:Nat)(l:List Oper)(fl:List Bool):Bool:=edgesB .any l && tailB .any l fl && slotsB N l fl.length && Region.noSelect l.toArray && floatB l fl
theorem Za0{l:List Oper}{fl:List Bool}(h:floatB l fl=true){i k:Nat}{oi ok:Oper}(hi:i<fl.length)(hf:fl.getD i false=true)(hoi:l[i]? = some oi)(hok:l[k]? = some ok):
  (fl.length<=k->(∀ t,i ∉ (ancs .any l []).getD k []->ok.dst=some t->t ∉ oi.looksAt l.toArray/\oi.dst≠some t)/\(∀ t,oi.dst=some t->t ∈ ok.looksAt l.toArray->i ∈ (ancs .any l []).getD k []))/\
  (k<=i->fl.getD k false=true->∀ t,oi.dst=some t->t ∉ ok.looksAt l.toArray):=by
 simp only[floatB,List.all_eq_true,List.mem_range,Bool.or_eq_true,Bool.not_eq_true'] at h
 have hkl:k<l.length:=(List.getElem?_eq_some_iff.1 hok).1
 have h1:=(h i hi).resolve_left (by rw[hf]; simp)
 rw[hoi] at h1
 simp only[Option.map_some,Option.getD_some,List.all_eq_true,List.mem_range] at h1
 have h2:=h1 k hkl
 rw[hok] at h2
 simp only[Option.map_some,Option.getD_some,Bool.and_eq_true,Bool.or_eq_true,Nat.blt_eq] at h2
 obtain⟨h3,h4⟩:=h2
 refine⟨fun hk=>?_,fun hki hfk t ht=>?_⟩
 .have h5:=h3.resolve_left (by omega)
  refine⟨fun t hna ht=>?_,fun t ht hl=>?_⟩
  .have h6:=h5.1
   rw[show ((ancs .any l []).getD k []).contains i=false by simpa using hna] at h6
   rw[ht] at h6
   simp only[Bool.false_eq_true,false_or,Bool.and_eq_true,Bool.not_eq_true'] at h6
   refine⟨by simpa using h6.1,fun e=>?_⟩
   have h7:=h6.2
   rw[e] at h7
   simp at h7
  have h6:=h5.2
  rw[ht] at h6
  simp only[Bool.or_eq_true,Bool.not_eq_true'] at h6
  rcases h6 with h6|h6
  .simp at h6; exact absurd hl h6
  simpa using h6
 rcases h4 with h4|h4
 .simp only[Bool.not_eq_true',Bool.and_eq_false_iff] at h4
  rcases h4 with h4|h4
  .have:Nat.ble k i=true:=by simpa using hki
   rw[this] at h4; cases h4
  rw[hfk] at h4; cases h4
 rw[ht] at h4
 simpa using h4
theorem Z1{N:Nat}{l:List Oper}{n:Nat}(h:slotsB N l n=true){i:Nat}{o:Oper}{t:Nat}(hi:i<n)(ho:l[i]? = some o)(hd:o.dst=some t):
  t<N/\∀ j o',j<n->l[j]? = some o'->i≠j->o'.dst≠some t/\(t ∈ o'.looksAt l.toArray->(i<j->i ∈ (ancs .any l []).getD j [])/\(j<i->j ∈ (ancs .any l []).getD i [])):=by
 simp only[slotsB,List.all_eq_true] at h
 have hm:∀ j o',j<n->l[j]? = some o'->(o',j) ∈ (l.take n).zipIdx:=fun j o' hj hl=>by
  rw[List.mem_zipIdx_iff_getElem?]
  simp only[List.getElem?_take,if_pos hj]
  exact hl
 have h0:=h (o,i) (hm i o hi ho)
 simp only[hd,Bool.and_eq_true,List.all_eq_true,Nat.blt_eq] at h0
 refine⟨h0.1,fun j o' hj hl hne=>?_⟩
 have h1:=h0.2 (o',j) (hm j o' hj hl)
 have hb:Nat.beq i j=false:=by cases hb:Nat.beq i j; rfl; exact absurd (Nat.eq_of_beq_eq_true hb) hne
 simp only[hb,Bool.false_or,Bool.and_eq_true,Bool.or_eq_true] at h1
 refine⟨fun e=>?_,fun hl'=>?_⟩
 .have h2:=h1.1
  simp only[e] at h2
  simp at h2
 have h2:=h1.2
 have hc:(o'.looksAt l.toArray).contains t=true:=by simpa using hl'
 rw[hc] at h2
 simp only[Bool.not_true,Bool.false_eq_true,false_or] at h2
 refine⟨fun hij=>?_,fun hji=>?_⟩
 .rw[show Nat.blt i j=true by simpa using hij] at h2
  simpa using h2
 rw[show Nat.blt i j=false by cases hb:Nat.blt i j; rfl; rw[Nat.blt_eq] at hb; omega] at h2
 simpa using h2
def fill(F:Fr)(a:Act):Act:={ tmps:=a.tmps.mapIdx fun t x=>(F.get t).getD x,defers:=a.defers }
theorem Zei(F:Fr)(a:Act)(t:Nat):(fill F a).tmps[t]? = (a.tmps[t]?).map fun x=>(F.get t).getD x:=by simp[fill]
theorem Zie{N:Nat}{F:Fr}{a:Act}(hd:a.defers=[])(hs:a.tmps.size=N)(hF:∀ t v,F.get t=some v->t<N):Rel N F (fill F a) where
 defers:=hd
 size:=by simp[fill,hs]
 here:=fun t v h=>by
  rw[Zei]
  have:=hF t v h
  rw[Array.getElem?_eq_getElem (by omega)]
  simp[h]
end Go.EL
namespace Go.EL
open Go.IntKind (i8 i16 i32 i64 u8 u16 u32 u64)
open Go Go.RowKit
theorem Zf5{ops:Array Oper}{o:Oper}{a b:Act}(hs:∀ cs q,o.op≠.select cs q)(h:∀ t,t ∈ o.looksAt ops->a.tmps[t]? = b.tmps[t]?):execOp a.eval o=execOp b.eval o:=by
 refine execOp_congr o hs fun x hx=>?_
 cases x with
 | tmp t=>
  have:=h t (List.mem_append_left _ (List.mem_filterMap.2 ⟨.tmp t,by simpa using hx,rfl⟩))
  simp[Act.eval,this]
 | _=>rfl
theorem Zer{ops:Array Oper}{o:Oper}{a b:Act}(h:∀ t,t ∈ o.looksAt ops->a.tmps[t]? = b.tmps[t]?):Region.wanted o (yielded ops a.tmps)=Region.wanted o (yielded ops b.tmps):=by
 unfold Region.wanted
 cases hg:o.guard with
 | none=>rfl
 | some gw=>
  obtain⟨g,want⟩:=gw
  have hy:yielded ops a.tmps g=yielded ops b.tmps g:=by
   unfold yielded
   cases ht:(ops[g]?).bind (·.dst) with
   | none=>rfl
   | some t=>
    have:=h t (List.mem_append_right _ (by simp[hg,ht]))
    simp[this]
  simp only[hy]
theorem filter_one{α:Type}(f:α->Bool):∀ (l:List α) (i j:Nat) (a b:α),(l.filter f).length<=1->l[i]? = some a->l[j]? = some b->f a=true->f b=true->i<j->False
 | [],i,j,a,b,_,h,_,_,_,_=>by simp at h
 | x::l,0,j+1,a,b,hl,h1,h2,ha,hb,_=>by
  simp only[List.getElem?_cons_zero,Option.some.injEq] at h1
  subst h1
  simp only[List.getElem?_cons_succ] at h2
  have:b ∈ l.filter f:=List.mem_filter.2 ⟨List.mem_of_getElem? h2,hb⟩
  have:=List.length_pos_of_mem this
  simp only[List.filter_cons,ha,if_true,List.length_cons] at hl
  omega
 | x::l,i+1,j+1,a,b,hl,h1,h2,ha,hb,hij=>by
  simp only[List.getElem?_cons_succ] at h1 h2
  refine filter_one f l i j a b ?_ h1 h2 ha hb (by omega)
  simp only[List.filter_cons] at hl
  split at hl
  .simp only[List.length_cons] at hl; omega
  exact hl
theorem ZjF{l:List Oper}{k i j:Nat}{o o':Oper}(h:soleB l.toArray k=true)(h1:l[i]? = some o)(h2:l[j]? = some o')(ho:(o.looksAt l.toArray).contains k=true)(ho':(o'.looksAt l.toArray).contains k=true):i=j:=by
 have hl:=Nat.le_of_ble_eq_true h
 rcases Nat.lt_trichotomy i j with hij|hij|hij
 .exact (filter_one _ _ i j o o' hl h1 h2 ho ho' hij).elim
 .exact hij
 exact (filter_one _ _ j i o' o hl h2 h1 ho' ho hij).elim
section
variable {P:Program}{N:Nat}{Q:Post}{fr:Fr}{w0:Bs}{G0 G:Mem}{L:Lo}{l:List Oper}
set_option maxHeartbeats 1000000 in
theorem ZhC:∀ (T:Tab) (und:Und) (p:Nat×(Value->Gx->Prop)),p ∈ undT T und->(∃ q ∈ und,q.1=p.1)\/∃ (j:Nat) (q:Oper×Ent),T[j]? = some q/\q.1.dst=some p.1
 | [],und,p,h=>.inl ⟨p,h,rfl⟩
 | (o,.inl c)::r,und,p,h=>by
  rcases ZhC r und p h with h|⟨j,q,h1,h2⟩
  .exact .inl h
  exact .inr ⟨j+1,q,by simpa using h1,h2⟩
 | (o,.inr φ)::r,und,p,h=>by
  simp only[undT] at h
  cases hd:o.dst with
  | none=>
   rw[hd] at h
   rcases ZhC r _ p h with h|⟨j,q,h1,h2⟩
   .exact .inl h
   exact .inr ⟨j+1,q,by simpa using h1,h2⟩
  | some d=>
   rw[hd] at h
   rcases ZhC r _ p h with ⟨q,hq,e⟩|⟨j,q,h1,h2⟩
   .rcases List.mem_cons.1 hq with rfl|hq
    .exact .inr ⟨0,(o,.inr φ),by simp,by rw[<- e]; exact hd⟩
    obtain⟨p0,hp0,e0,_⟩:=Zf0 hq
    exact .inl ⟨p0,hp0,e0.symm.trans e⟩
   exact .inr ⟨j+1,q,by simpa using h1,h2⟩
theorem Zh9{u u':Nat->Value}:∀ {und:Und},(∀ p ∈ und,u p.1=u' p.1)->undFr und u=undFr und u'
 | [],_=>rfl
 | p::r,h=>by simp only[undFr]; rw[h p (by simp),Zh9 fun q hq=>h q (by simp[hq])]
theorem Zgo{ops:Array Oper}{o:Oper}{u u':Nat->Value}{G:Gx}:∀ {und:Und},(∀ p ∈ und,u p.1=u' p.1)->undLook ops o und u G->undLook ops o und u' G
 | [],_,_=>trivial
 | p::r,h,hu=>⟨by rw[<- h p (by simp)]; exact hu.1,Zgo (fun q hq=>h q (by simp[hq])) hu.2⟩
theorem drawnR{Bt:Asrt}{R:Act->World->Prop}(hR:∀ a w,wpAny P .any l.toArray Q l.toArray.size (Array.replicate l.toArray.size false) a { w with drawn:=w.drawn+1 }->R a w)(hBt:Mem.le G0 G->∀ (X:Gx) w,Gx.le (Gx.of G) X->StX w0 G0 X L w->Bt w)(fl:List Bool)(hB:drawB N l fl=true)(h:Mem.le G0 G->Chain P N Q fr w0 G0 G L l.toArray Bt fl l [] []):
  ∀ a w,Rel N fr a->St w0 G0 G L w->R a w:=by
 intro a w ha hw
 replace h:=h hw.base
 replace hBt:=hBt hw.base
 revert a w
 simp only[drawB,Bool.and_eq_true] at hB
 obtain⟨⟨⟨⟨hE,hT⟩,hS⟩,hsel⟩,hFl⟩:=hB
 obtain⟨T,t1,t2,t3,t5,t4,t6⟩:=ZcM hBt fl l [] [] h
 generalize hn:fl.length=n at *
 have hlen:T.length=min n l.length:=by have:=congrArg List.length t1; simpa using this
 have hTl:∀ (j:Nat) (q:Oper×Ent),T[j]? = some q->j<n/\l[j]? = some q.1:=by
  intro j q hj
  have h1:(T.map (·.1))[j]? = some q.1:=by simp[hj]
  rw[t1,List.getElem?_take] at h1
  split at h1
  .exact⟨by assumption,h1⟩
  cases h1
 have hlT:∀ (j:Nat) (o:Oper),j<n->l[j]? = some o->∃ e,T[j]? = some (o,e):=by
  intro j o hj hl
  have hjl:j<T.length:=by have:=(List.getElem?_eq_some_iff.1 hl).1; omega
  refine⟨T[j].2,?_⟩
  rw[List.getElem?_eq_getElem hjl]
  have h1:=(hTl j T[j] (List.getElem?_eq_getElem hjl)).2
  rw[hl] at h1
  cases h1
  rfl
 have hnd:∀ (j₁ j₂:Nat) (q₁ q₂:Oper×Ent) (d:Nat),T[j₁]? = some q₁->T[j₂]? = some q₂->q₁.1.dst=some d->q₂.1.dst=some d->j₁=j₂:=by
  intro j₁ j₂ q₁ q₂ d h1 h2 e1 e2
  apply Classical.byContradiction
  intro hne
  obtain⟨a1,b1⟩:=hTl j₁ q₁ h1
  obtain⟨a2,b2⟩:=hTl j₂ q₂ h2
  exact ((Z1 hS a1 b1 e1).2 j₂ q₂.1 a2 b2 hne).1 e2
 have hnoSel:=Region.noSelect_spec hsel
 intro a w ha hw
 have frameOf:∀ (i:Nat) (u:Nat->Value) (t:Nat),
   ((∀ j q,j<i->T[j]? = some q->q.1.dst≠some t)->Fr.get (undFr (undT (T.take i) []) u++(detT (T.take i) []++fr)) t=fr.get t)/\
   (∀ (j:Nat) (q:Oper×Ent),j<i->T[j]? = some q->q.1.dst=some t->Fr.get (undFr (undT (T.take i) []) u++(detT (T.take i) []++fr)) t=some (q.2.val u t)):=by
  intro i u t
  have hsub:∀ (j:Nat) (q:Oper×Ent),(T.take i)[j]? = some q->j<i/\T[j]? = some q:=by
   intro j q hj
   rw[List.getElem?_take] at hj
   split at hj
   .exact⟨by assumption,hj⟩
   cases hj
  obtain⟨f1,f2⟩:=Zif (fr:=fr) (u:=u) (T.take i) [] [] t (by simp) (fun j₁ j₂ q₁ q₂ d h1 h2=>hnd j₁ j₂ q₁ q₂ d (hsub _ _ h1).2 (hsub _ _ h2).2)
   (fun q hq φ he=>by obtain⟨d,hd,_⟩:=t3 q (List.mem_of_mem_take hq) φ he; rw[hd]; rfl)
  refine⟨fun hn=>?_,fun j q hj hq hd=>?_⟩
  .rw[f1 (fun q hq=>by
    obtain⟨j,hj⟩:=List.getElem?_of_mem hq
    exact hn j q (hsub j q hj).1 (hsub j q hj).2)]
   rfl
  refine f2 q ?_ hd
  have:(T.take i)[j]? = some q:=by rw[List.getElem?_take,if_pos hj]; exact hq
  exact List.mem_of_getElem? this
 let Inv:(Nat->Prop)->Act->World->Prop:=fun D a w=>∃ (u:Nat->Value) (G':Gx),Gx.le (Gx.of G) G'/\StX w0 G0 G' L w/\a.defers=[]/\a.tmps.size=N/\
  (∀ (j:Nat) (q:Oper×Ent) (t:Nat),T[j]? = some q->q.1.dst=some t->(D j->a.tmps[t]? = some (q.2.val u t)/\∀ φ,q.2 = .inr φ->(∀ (i:Nat) (q':Oper×Ent),T[i]? = some q'->D i->q'.2.eat≠some t)->φ.2 (u t) G')/\(¬ D j->∀ v,fr.get t=some v->a.tmps[t]? = some v))/\
  (∀ t,(∀ (j:Nat) (q:Oper×Ent),T[j]? = some q->q.1.dst≠some t)->∀ v,fr.get t=some v->a.tmps[t]? = some v)
 let Inv2:(Nat->Prop)->Nat->Act->World->Prop:=fun D m a w=>∃ (u:Nat->Value) (af:Act),(∃ G':Gx,Gx.le (Gx.of G) G'/\∀ (j:Nat) (q:Oper×Ent) (t:Nat) (φ:Option Nat×(Value->Gx->Prop)),T[j]? = some q->q.1.dst=some t->q.2 = .inr φ->(∀ (i:Nat) (q':Oper×Ent),T[i]? = some q'->q'.2.eat≠some t)->φ.2 (u t) G')/\wpListT P l.toArray Bt (NX Q) (l.drop m) af w/\a.defers=af.defers/\a.tmps.size=N/\af.tmps.size=N/\
  (∀ t,(∀ (j:Nat) (q:Oper×Ent),T[j]? = some q->fl.getD j false=true->¬ D j->q.1.dst≠some t)->a.tmps[t]? = af.tmps[t]?)/\
  (∀ (j:Nat) (q:Oper×Ent) (t:Nat),T[j]? = some q->fl.getD j false=true->¬ D j->q.1.dst=some t->af.tmps[t]? = some (q.2.val u t))/\
  (∀ (j:Nat) (q:Oper×Ent),T[j]? = some q->fl.getD j false=true->¬ D j->∀ t,t ∈ q.1.looksAt l.toArray->∀ v,Fr.get (undFr (undT (T.take j) []) u++(detT (T.take j) []++fr)) t=some v->af.tmps[t]? = some v)/\
  (∀ (j:Nat) (q:Oper×Ent),T[j]? = some q->fl.getD j false=true->¬ D j->∃ c,(∀ t,q.1.dst=some t->q.2.val u t=c)/\∀ G',Gx.le (Gx.of G) G'->undLook l.toArray q.1 (undT (T.take j) []) u G'->guardOK l.toArray (undFr (undT (T.take j) []) u++(detT (T.take j) []++fr)) q.1 true/\Y0 P N q.1 (undFr (undT (T.take j) []) u++(detT (T.take j) []++fr)) Bt c)
 have hfln:∀ j,fl.getD j false=true->j<n:=fun j hj=>by
  rcases Nat.lt_or_ge j n with h|h
  .exact h
  rw[List.getD_eq_getElem?_getD,List.getElem?_eq_none (by omega)] at hj; cases hj
 refine hR _ _ (ZlY (fl:=fl) Inv Inv2 hE hT ?_ ?_ ?_ ?_ ?_ ?_)
 .exact⟨fun _=>undef,Gx.of G,Gx.le_refl _,StX.of hw.drew,ha.defers,ha.size,fun j q t _ _=>⟨fun h=>h.elim,fun _ v hv=>ha.here t v hv⟩,fun t _ v hv=>ha.here t v hv⟩
 .intro D a w i o hc _ hi ho hni hr hI
  rw[hn] at hi
  obtain⟨u,G',hle,hst,hd,hsz,hslot,hbase⟩:=hI
  obtain⟨e,hTi⟩:=hlT i o hi ho
  have hanc:=Zb5 hc i o ho hr
  let F:Fr:=undFr (undT (T.take i) []) u++(detT (T.take i) []++fr)
  have hF:∀ t v,F.get t=some v->t<N:=by
   intro t v hv
   by_cases hex:∃ (j:Nat) (q:Oper×Ent),j<i/\T[j]? = some q/\q.1.dst=some t
   .obtain⟨j,q,h1,h2,h3⟩:=hex
    obtain⟨a1,b1⟩:=hTl j q h2
    exact (Z1 hS a1 b1 h3).1
   have:=(frameOf i u t).1 (fun j q h1 h2 h3=>hex ⟨j,q,h1,h2,h3⟩)
   have hv':fr.get t=some v:=by rw[<- this]; exact hv
   have:=ha.here t v hv'
   have:=(Array.getElem?_eq_some_iff.1 this).1
   have hs0:=ha.size
   omega
  have hlook:∀ t,t ∈ o.looksAt l.toArray->(fill F a).tmps[t]? = a.tmps[t]?:=by
   intro t ht
   rw[Zei]
   cases hx:a.tmps[t]? with
   | none=>rfl
   | some x=>
    simp only[Option.map_some,Option.some.injEq]
    cases hf:F.get t with
    | none=>rfl
    | some v=>
     simp only[Option.getD_some]
     have key:a.tmps[t]? = some v:=by
      by_cases hex:∃ (j:Nat) (q:Oper×Ent),j<i/\T[j]? = some q/\q.1.dst=some t
      .obtain⟨j,q,h1,h2,h3⟩:=hex
       have hv:=(frameOf i u t).2 j q h1 h2 h3
       have hvv:q.2.val u t=v:=by rw[hf] at hv; simpa using hv.symm
       obtain⟨a1,b1⟩:=hTl j q h2
       have hD:D j:=hanc j (((Z1 hS a1 b1 h3).2 i o hi ho (by omega)).2 ht |>.1 h1)
       rw[<- hvv]
       exact ((hslot j q t h2 h3).1 hD).1
      have hb:=(frameOf i u t).1 (fun j q h1 h2 h3=>hex ⟨j,q,h1,h2,h3⟩)
      have hv':fr.get t=some v:=by rw[<- hb]; exact hf
      by_cases hex2:∃ (j:Nat) (q:Oper×Ent),T[j]? = some q/\q.1.dst=some t
      .obtain⟨j,q,h2,h3⟩:=hex2
       have hji:i<=j:=by
        rcases Nat.lt_or_ge j i with h|h
        .exact absurd ⟨j,q,h,h2,h3⟩ hex
        exact h
       have hnj:¬ D j:=by
        rcases Nat.lt_or_ge i j with h|h
        .intro hDj
         obtain⟨a1,b1⟩:=hTl j q h2
         have hij:=(((Z1 hS a1 b1 h3).2 i o hi ho (by omega)).2 ht).2 h
         exact hni (Zb5 hc j q.1 b1 (fun e he hb=>hc j q.1 (by simpa using b1) hDj e he hb) i hij)
        have:i=j:=by omega
        subst this
        exact hni
       exact (hslot j q t h2 h3).2 hnj v hv'
      exact hbase t (fun j q h2 h3=>hex2 ⟨j,q,h2,h3⟩) v hv'
     rw[hx] at key
     simpa using key.symm
  have hrel:Rel N F (fill F a):=Zie hd hsz hF
  have hex:execOp (fill F a).eval o=execOp a.eval o:=Zf5 (fun cs b=>hnoSel i o cs b (by simpa using ho)) hlook
  have hwt:Region.wanted o (yielded l.toArray (fill F a).tmps)=Region.wanted o (yielded l.toArray a.tmps):=Zer hlook
  have hul:undLook l.toArray o (undT (T.take i) []) u G':=by
   refine Zgg fun p hp hpl=>?_
   rcases ZcJ (T.take i) [] p hp with ⟨q,h,_⟩|h|⟨j,o',φ,h1,h2,h3,_⟩
   .cases h
   .exact h _ _
   rw[List.getElem?_take] at h1
   split at h1
   .rename_i hji
    obtain⟨a1,b1⟩:=hTl j _ h1
    have hD:D j:=hanc j (((Z1 hS a1 b1 h2).2 i o hi ho (by omega)).2 hpl |>.1 hji)
    rw[h3]
    refine ((hslot j _ p.1 h1 h2).1 hD).2 φ rfl fun i' q' hi' hDi' he=>hni ?_
    obtain⟨e1,e2,_⟩:=t6 i' q'.1 q'.2 p.1 hi' he
    have:=ZjF e2 (hTl i' q' hi').2 ho e1 (by simpa using hpl)
    rw[<- this]; exact hDi'
   cases h1
  have hop:=t2 i o e hTi u G' hle hul
  have behind:∀ v w' G'',Gx.leO e.eat G' G''->StX w0 G0 G'' L w'->e.post v G''->Inv (fun j=>D j\/j=i) (a.put o.dst v) w':=by
   intro v w' G'' hle' hst' hpost
   let u':Nat->Value:=fun t=>if o.dst=some t then v else u t
   refine⟨u',G'',Gx.Zqq hle hle',hst',by cases o.dst <;> exact hd,by cases o.dst <;> simpa [Act.put] using hsz,fun j q t hj hdt=>?_,fun t hn x hx=>?_⟩
   .by_cases hji:j=i
    .subst hji
     rw[hTi] at hj
     cases hj
     simp only at hdt
     refine⟨fun _=>?_,fun h=>absurd (Or.inr rfl) h⟩
     have htN:=(Z1 hS hi ho hdt).1
     refine⟨?_,fun φ he _=>?_⟩
     .rw[hdt]
      simp only[Act.put]
      rw[Array.getElem?_setIfInBounds_self_of_lt (by omega)]
      cases e with
      | inl c=>simp only[Ent.post] at hpost; simp[Ent.val,hpost]
      | inr φ=>simp[Ent.val,u',hdt]
     simp only at he
     subst he
     simp only[u',hdt,if_true]
     exact hpost
    have hne:o.dst≠some t:=fun he=>hji (hnd j i q (o,e) t hj hTi hdt he)
    have hput:(a.put o.dst v).tmps[t]? = a.tmps[t]?:=by
     cases ho':o.dst with
     | none=>rfl
     | some s=>
      simp only[Act.put]
      rw[Array.getElem?_setIfInBounds_ne (fun e=>hne (by rw[ho',e]))]
    have hu':u' t=u t:=by simp only[u']; rw[if_neg hne]
    have hval:q.2.val u' t=q.2.val u t:=by
     cases q.2 with
     | inl c=>rfl
     | inr φ=>simp only[Ent.val]; exact hu'
    rw[hput,hval]
    refine⟨fun hD=>?_,fun hD=>(hslot j q t hj hdt).2 (fun h=>hD (.inl h))⟩
    have hDj:D j:=hD.resolve_right hji
    have:=(hslot j q t hj hdt).1 hDj
    refine⟨this.1,fun φ he hne'=>?_⟩
    rw[hu']
    obtain⟨d,hd',hm'⟩:=t3 q (List.mem_of_getElem? hj) φ he
    have hdd:d=t:=by rw[hd'] at hdt; simpa using hdt
    subst hdd
    exact hm' _ _ _ (hle'.leE (hne' i _ hTi (.inr rfl))) (this.2 φ he fun i' q' h1 h2=>hne' i' q' h1 (.inl h2))
   have hne:o.dst≠some t:=hn i (o,e) hTi
   have hput:(a.put o.dst v).tmps[t]? = a.tmps[t]?:=by
    cases ho':o.dst with
    | none=>rfl
    | some s=>
     simp only[Act.put]
     rw[Array.getElem?_setIfInBounds_ne (fun e=>hne (by rw[ho',e]))]
   rw[hput]
   exact hbase t hn x hx
  unfold wpOp
  have hoa:l.toArray[i]? = some o:=by simpa using ho
  simp only[hoa]
  rcases hop with ⟨hg,hk,hpost⟩|⟨hg,hyr⟩
  .rw[if_neg (by rw[<- hwt,hrel.wanted hg]; simp)]
   exact behind undef w G' (by rw[hk]; exact (Gx.le_refl _).leO) hst hpost
  rw[if_pos (by rw[<- hwt,hrel.wanted hg])]
  have hres:=hyr (fill F a) w hrel hst
  rw[hex] at hres
  exact .inl (hres.wp fun v w' ⟨G'',h1,h2,h3⟩=>behind v w' G'' h1 h2 h3)
 .-- the turn
  intro D a w hcl hall _ hI
  obtain⟨u0,G',hle,hst,hd,hsz,hslot0,hbase⟩:=hI
  have hmake:∀ m,∃ u:Nat->Value,(∀ t,(∀ (j:Nat) (q:Oper×Ent),j<m->T[j]? = some q->fl.getD j false=true->¬ D j->q.1.dst≠some t)->u t=u0 t)/\
    ∀ (j:Nat) (o:Oper) (e:Ent),j<m->T[j]? = some (o,e)->fl.getD j false=true->¬ D j->e.eat=none/\∃ c,(∀ t,o.dst=some t->e.val u t=c)/\∀ G',Gx.le (Gx.of G) G'->undLook l.toArray o (undT (T.take j) []) u G'->guardOK l.toArray (undFr (undT (T.take j) []) u++(detT (T.take j) []++fr)) o true/\Y0 P N o (undFr (undT (T.take j) []) u++(detT (T.take j) []++fr)) Bt c/\∀ φ,e = .inr φ->φ.2 c G':=by
   intro m
   induction m with
   | zero=>exact⟨u0,fun _ _=>rfl,fun j _ _ h=>absurd h (Nat.not_lt_zero j)⟩
   | succ m ih=>
    obtain⟨u,h1,h2⟩:=ih
    have stay:(∀ (o:Oper) (e:Ent),T[m]? = some (o,e)->fl.getD m false=true->¬ D m->∃ c,e = .inl c/\∀ u G',Gx.le (Gx.of G) G'->undLook l.toArray o (undT (T.take m) []) u G'->guardOK l.toArray (undFr (undT (T.take m) []) u++(detT (T.take m) []++fr)) o true/\Y0 P N o (undFr (undT (T.take m) []) u++(detT (T.take m) []++fr)) Bt c)->
      ∃ u:Nat->Value,(∀ t,(∀ (j:Nat) (q:Oper×Ent),j<m+1->T[j]? = some q->fl.getD j false=true->¬ D j->q.1.dst≠some t)->u t=u0 t)/\
    ∀ (j:Nat) (o:Oper) (e:Ent),j<m+1->T[j]? = some (o,e)->fl.getD j false=true->¬ D j->e.eat=none/\∃ c,(∀ t,o.dst=some t->e.val u t=c)/\∀ G',Gx.le (Gx.of G) G'->undLook l.toArray o (undT (T.take j) []) u G'->guardOK l.toArray (undFr (undT (T.take j) []) u++(detT (T.take j) []++fr)) o true/\Y0 P N o (undFr (undT (T.take j) []) u++(detT (T.take j) []++fr)) Bt c/\∀ φ,e = .inr φ->φ.2 c G':=by
     intro hst
     refine⟨u,fun t ht=>h1 t fun j q hj=>ht j q (by omega),fun j o e hj hTj hf hnD=>?_⟩
     rcases Nat.lt_succ_iff_lt_or_eq.1 hj with hj|rfl
     .exact h2 j o e hj hTj hf hnD
     obtain⟨c,rfl,hc⟩:=hst o e hTj hf hnD
     exact⟨rfl,c,fun _ _=>rfl,fun G' g1 g2=>⟨(hc u G' g1 g2).1,(hc u G' g1 g2).2,fun φ he=>by cases he⟩⟩
    by_cases hm0:∃ o e,T[m]? = some (o,e)/\fl.getD m false=true/\¬ D m
    .obtain⟨o,e,hTm,hfm,hnDm⟩:=hm0
     rcases t5 m o e hTm hfm with ⟨c,he,hc⟩|⟨φ,c,he,hloc,hc⟩
     .exact stay fun o' e' h _ _=>by rw[hTm] at h; cases h; exact⟨c,he,hc⟩
     subst he
     obtain⟨d,hd0,_⟩:=t3 _ (List.mem_of_getElem? hTm) (none,φ) rfl
     simp only at hd0
     obtain⟨am,bm⟩:=hTl m _ hTm
     have hud:∀ j,j<=m->∀ p ∈ undT (T.take j) [],u p.1=(fun t=>if t=d then c u else u t) p.1:=by
      intro j hj p hp
      have:p.1≠d:=by
       intro e
       rcases ZhC (T.take j) [] p hp with ⟨q,hq,_⟩|⟨i,q,hi,hq⟩
       .cases hq
       rw[List.getElem?_take] at hi
       split at hi
       .have:=hnd i m q _ d hi hTm (by rw[<- e]; exact hq) hd0
        omega
       cases hi
      simp only[if_neg this]
     refine⟨fun t=>if t=d then c u else u t,fun t ht=>?_,fun j o' e' hj hTj hf hnD=>?_⟩
     .have:t≠d:=fun e=>ht m _ (Nat.lt_succ_self m) hTm hfm hnDm (by rw[e]; exact hd0)
      simp only[if_neg this]
      exact h1 t fun j q hj=>ht j q (by omega)
     rcases Nat.lt_succ_iff_lt_or_eq.1 hj with hj|rfl
     .obtain⟨g1,c',g2,g3⟩:=h2 j o' e' hj hTj hf hnD
      refine⟨g1,c',fun t ht=>?_,fun G' k1 k2=>?_⟩
      .rw[<- g2 t ht]
       cases e' with
       | inl c=>rfl
       | inr φ'=>
        have:t≠d:=fun e=>by
         have:=hnd j m _ _ d hTj hTm (by rw[<- e]; exact ht) hd0
         omega
        simp only[Ent.val,if_neg this]
      rw[<- Zh9 (hud j (by omega))]
      exact g3 G' k1 (Zgo (fun p hp=>(hud j (by omega) p hp).symm) k2)
     rw[hTm] at hTj
     cases hTj
     have hcc:c (fun t=>if t=d then c u else u t)=c u:=(hloc _ _ fun t ht=>by
      have:t≠d:=fun e=>(Za0 hFl (by omega) hfm bm bm).2 (Nat.le_refl _) hfm d hd0 (by rw[<- e]; exact ht)
      simp only[if_neg this]).symm
     refine⟨rfl,c u,fun t ht=>?_,fun G' k1 k2=>?_⟩
     .have:t=d:=by rw[hd0] at ht; simpa using ht.symm
      simp only[Ent.val,if_pos this]
     have:=hc _ G' k1 k2
     rw[hcc] at this
     exact⟨this.1,this.2.1,fun φ' he=>by cases he; exact this.2.2⟩
    exact stay fun o e h1 h2 h3=>absurd ⟨o,e,h1,h2,h3⟩ hm0
  obtain⟨u,hu1,hu2⟩:=hmake T.length
  have hTlt:∀ (j:Nat) (q:Oper×Ent),T[j]? = some q->j<T.length:=fun j q hj=>(List.getElem?_eq_some_iff.1 hj).1
  have hslotD:∀ (j:Nat) (q:Oper×Ent) (t:Nat),T[j]? = some q->q.1.dst=some t->D j->a.tmps[t]? = some (q.2.val u t)/\∀ φ,q.2 = .inr φ->(∀ (i:Nat) (q':Oper×Ent),T[i]? = some q'->D i->q'.2.eat≠some t)->φ.2 (u t) G':=by
   intro j q t hj hdt hD
   have hut:u t=u0 t:=hu1 t fun j' q' _ hj' _ hnD' hd'=>hnD' (by rw[hnd j' j q' q t hj' hj hd' hdt]; exact hD)
   have hval:q.2.val u t=q.2.val u0 t:=by
    cases q.2 with
    | inl c=>rfl
    | inr φ=>exact hut
   rw[hval,hut]
   exact (hslot0 j q t hj hdt).1 hD
  have hTT:T.take T.length=T:=List.take_length
  let F:Fr:=undFr (undT T []) u++(detT T []++fr)
  have hfr:∀ t,((∀ (j:Nat) (q:Oper×Ent),T[j]? = some q->q.1.dst≠some t)->F.get t=fr.get t)/\(∀ (j:Nat) (q:Oper×Ent),T[j]? = some q->q.1.dst=some t->F.get t=some (q.2.val u t)):=by
   intro t
   have h0:=frameOf T.length u t
   rw[hTT] at h0
   exact⟨fun h=>h0.1 (fun j q _ hj=>h j q hj),fun j q hj hd=>h0.2 j q (List.getElem?_eq_some_iff.1 hj).1 hj hd⟩
  have hDj:∀ (j:Nat) (q:Oper×Ent),T[j]? = some q->¬ fl.getD j false=true->D j:=fun j q hj hf=>by
   obtain⟨a1,b1⟩:=hTl j q hj
   exact hall j (by omega) (List.getElem?_eq_some_iff.1 b1).1 (by simpa using hf)
  have hF:∀ t v,F.get t=some v->t<N:=by
   intro t v hv
   by_cases hex:∃ (j:Nat) (q:Oper×Ent),T[j]? = some q/\q.1.dst=some t
   .obtain⟨j,q,h2,h3⟩:=hex
    obtain⟨a1,b1⟩:=hTl j q h2
    exact (Z1 hS a1 b1 h3).1
   rw[(hfr t).1 (fun j q h2 h3=>hex ⟨j,q,h2,h3⟩)] at hv
   have:=ha.here t v hv
   have:=(Array.getElem?_eq_some_iff.1 this).1
   have hs0:=ha.size
   omega
  have hall2:∀ (j:Nat) (o:Oper) (φ:Option Nat×(Value->Gx->Prop)) (t:Nat),T[j]? = some (o,.inr φ)->o.dst=some t->(∀ (i:Nat) (q':Oper×Ent),T[i]? = some q'->q'.2.eat≠some t)->φ.2 (u t) G':=by
   intro j
   induction j using Nat.strongRecOn with
   | _ j ih=>
    intro o φ t hj hdt hne
    by_cases hD:D j
    .exact (hslotD j _ t hj hdt hD).2 φ rfl fun i q' h _=>hne i q' h
    have hf:fl.getD j false=true:=Classical.byContradiction fun h=>hD (hDj j _ hj h)
    obtain⟨heat,c,hc1,hc2⟩:=hu2 j o _ (hTlt j _ hj) hj hf hD
    obtain⟨a1,b1⟩:=hTl j _ hj
    have:=(hc2 G' hle (Zgg fun p hp hpl=>by
     rcases ZcJ (T.take j) [] p hp with ⟨q,h,_⟩|h|⟨j',o',φ',h1,h2,h3,_⟩
     .cases h
     .exact h _ _
     rw[List.getElem?_take] at h1
     split at h1
     .rename_i hjj
      rw[h3]
      refine ih j' hjj o' φ' p.1 h1 h2 fun i' q' hi' he=>?_
      obtain⟨e1,e2,_⟩:=t6 i' q'.1 q'.2 p.1 hi' he
      have:=ZjF e2 (hTl i' q' hi').2 b1 e1 (by simpa using hpl)
      subst this
      rw[hj] at hi'
      cases hi'
      rw[heat] at he
      cases he
     cases h1)).2.2 φ rfl
    have e:u t=c:=hc1 t hdt
    rw[e]; exact this
  have hund:undAll (undT T []) u G':=Zod fun p hp=>by
   rcases ZcJ T [] p hp with ⟨q,h,_⟩|h|⟨j,o',φ,h1,h2,h3,h4⟩
   .cases h
   .exact h _ _
   rw[h3]
   refine hall2 j o' φ p.1 h1 h2 fun i' q' hi' he=>?_
   .obtain⟨_,_,e3⟩:=t6 i' q'.1 q'.2 p.1 hi' he
    rcases e3 with ⟨p',h',_⟩|⟨j',q'',hj',hq'',hd''⟩
    .cases h'
    have:j'=j:=hnd j' j q'' _ p.1 hq'' h1 hd'' h2
    subst this
    refine h4 i' q' hj' hi' ?_ he
    cases hq2:q'.2 with
    | inl c=>rw[hq2] at he; simp[Ent.eat] at he
    | inr φ'=>obtain⟨d',hd',_⟩:=t3 q' (List.mem_of_getElem? hi') φ' hq2; rw[hd']; rfl
  refine⟨u,fill F a,⟨G',hle,fun j q t φ h1 h2 h3 h4=>hall2 j q.1 φ t (by rw[h1]; congr 1; exact Prod.ext rfl h3) h2 h4⟩,?_,rfl,hsz,by simp[fill,hsz],fun t ht=>?_,fun j q t hj hf hnD hdt=>?_,fun j q hj hf hnD t ht v hv=>?_,fun j q hj hf hnD=>?_⟩
  .have:=t4 u G' hle hund (fill F a) w (Zie hd hsz hF) hst
   rw[hn]
   exact this
  .rw[Zei]
   cases hx:a.tmps[t]? with
   | none=>rfl
   | some x=>
    simp only[Option.map_some,Option.some.injEq]
    cases hf:F.get t with
    | none=>rfl
    | some v=>
     simp only[Option.getD_some]
     have key:a.tmps[t]? = some v:=by
      by_cases hex:∃ (j:Nat) (q:Oper×Ent),T[j]? = some q/\q.1.dst=some t
      .obtain⟨j,q,h2,h3⟩:=hex
       have hv:=(hfr t).2 j q h2 h3
       rw[hf] at hv
       simp only[Option.some.injEq] at hv
       rw[hv]
       have hD:D j:=by
        apply Classical.byContradiction
        intro hnD
        by_cases hfj:fl.getD j false=true
        .exact ht j q h2 hfj hnD h3
        exact hnD (hDj j q h2 hfj)
       exact (hslotD j q t h2 h3 hD).1
      have hb:=(hfr t).1 (fun j q h2 h3=>hex ⟨j,q,h2,h3⟩)
      exact hbase t (fun j q h2 h3=>hex ⟨j,q,h2,h3⟩) v (by rw[<- hb]; exact hf)
     rw[hx] at key
     simpa using key
  .rw[Zei]
   have htN:=(Z1 hS (hTl j _ hj).1 (hTl j _ hj).2 hdt).1
   rw[Array.getElem?_eq_getElem (show t<a.tmps.size by rw[hsz]; exact htN)]
   have hv:=(hfr t).2 j _ hj hdt
   simp only[Option.map_some,hv,Option.getD_some]
  .rw[Zei]
   have hFt:F.get t=some v:=by
    by_cases hex:∃ (i:Nat) (q':Oper×Ent),i<j/\T[i]? = some q'/\q'.1.dst=some t
    .obtain⟨i,q',h1,h2,h3⟩:=hex
     rw[(frameOf j u t).2 i q' h1 h2 h3] at hv
     rw[(hfr t).2 i q' h2 h3]
     exact hv
    rw[(frameOf j u t).1 (fun i q' h1 h2 h3=>hex ⟨i,q',h1,h2,h3⟩)] at hv
    rw[(hfr t).1 (fun i q' h2 h3=>?_)]
    .exact hv
    obtain⟨a1,b1⟩:=hTl i q' h2
    obtain⟨a2,b2⟩:=hTl j q hj
    have hij:j<=i:=by
     rcases Nat.lt_or_ge i j with h|h
     .exact absurd ⟨i,q',h,h2,h3⟩ hex
     exact h
    by_cases hfi:fl.getD i false=true
    .exact (Za0 hFl (by omega) hfi b1 b2).2 hij hf t h3 ht
    rcases Nat.lt_or_ge j i with h|h
    .have hDi:=hDj i q' h2 hfi
     have hanc:=(((Z1 hS a1 b1 h3).2 j q.1 a2 b2 (by omega)).2 ht).2 h
     exact hnD (Zb5 hcl i q'.1 b1 (fun e he hb=>hcl i q'.1 (by simpa using b1) hDi e he hb) j hanc)
    have:i=j:=by omega
    subst this
    exact hfi hf
   have htN:t<a.tmps.size:=by rw[hsz]; exact hF t v hFt
   rw[Array.getElem?_eq_getElem htN]
   simp[hFt]
  obtain⟨_,c,k1,k2⟩:=hu2 j q.1 q.2 (hTlt j q hj) hj hf hnD
  exact⟨c,k1,fun G' g1 g2=>⟨(k2 G' g1 g2).1,(k2 G' g1 g2).2.1⟩⟩
 .-- the tail
  intro D a w m o hcl hm' ho hmD hr hI
  obtain⟨u,af,hX,hwp,hdf,hsz,hszf,heq,hmiss,hlook,hpk⟩:=hI
  rw[hn] at hm'
  have hml:m<l.length:=(List.getElem?_eq_some_iff.1 ho).1
  have hom:l[m]=o:=by rw[List.getElem?_eq_getElem hml] at ho; simpa using ho
  have hanc:=Zb5 hcl m o ho hr
  have hag:∀ t,t ∈ o.looksAt l.toArray->af.tmps[t]? = a.tmps[t]?:=fun t ht=>(heq t (fun j q hj hf hnD hdt=>by
   obtain⟨a1,b1⟩:=hTl j q hj
   exact hnD (hanc j (((Za0 hFl (by omega) hf b1 ho).1 (by omega)).2 t hdt ht)))).symm
  have hex:execOp af.eval o=execOp a.eval o:=Zf5 (fun cs b=>hnoSel m o cs b (by simpa using ho)) hag
  have hwt:Region.wanted o (yielded l.toArray af.tmps)=Region.wanted o (yielded l.toArray a.tmps):=Zer hag
  rw[List.drop_eq_getElem_cons hml,hom] at hwp
  unfold wpListT at hwp
  replace hwp:=hwp.2
  have behind:∀ v w' ds,wpListT P l.toArray Bt (NX Q) (l.drop (m+1)) (({ af with defers:=ds }:Act).put o.dst v) w'->Inv2 (fun j=>D j\/j=m) (m+1) (({ a with defers:=ds }:Act).put o.dst v) w':=by
   intro v w' ds hw'
   have hput:∀ (x:Act) t,o.dst≠some t->(x.put o.dst v).tmps[t]? = x.tmps[t]?:=fun x t hne=>by
    cases ho':o.dst with
    | none=>rfl
    | some s=>
     simp only[Act.put]
     rw[Array.getElem?_setIfInBounds_ne (fun e=>hne (by rw[ho',e]))]
   refine⟨u,_,hX,hw',by cases o.dst <;> rfl,by cases o.dst <;> simpa [Act.put] using hsz,by cases o.dst <;> simpa [Act.put] using hszf,fun t ht=>?_,fun j q t hj hf hnD hdt=>?_,fun j q hj hf hnD t ht v' hv'=>?_,fun j q hj hf hnD=>hpk j q hj hf (fun h=>hnD (.inl h))⟩
   .by_cases hdt:o.dst=some t
    .rw[hdt]
     simp only[Act.put,Array.getElem?_setIfInBounds,hsz,hszf,if_true]
    rw[hput _ t hdt,hput _ t hdt]
    exact heq t (fun j q hj hf hnD hd=>by
     have:=(hTl j q hj).1
     exact ht j q hj hf (fun h=>h.elim hnD (fun e=>by omega)) hd)
   .obtain⟨a1,b1⟩:=hTl j _ hj
    have hne:o.dst≠some t:=fun e=>(((Za0 hFl (by omega) hf b1 ho).1 (by omega)).1 t (fun hj'=>hnD (.inl (hanc j hj'))) e).2 hdt
    rw[hput _ t hne]
    exact hmiss j q t hj hf (fun h=>hnD (.inl h)) hdt
   obtain⟨a1,b1⟩:=hTl j _ hj
   have hne:o.dst≠some t:=fun e=>(((Za0 hFl (by omega) hf b1 ho).1 (by omega)).1 t (fun hj'=>hnD (.inl (hanc j hj'))) e).1 ht
   rw[hput _ t hne]
   exact hlook j q hj hf (fun h=>hnD (.inl h)) t ht v' hv'
  have haf:({ af with defers:=a.defers }:Act)=af:=by rw[hdf]
  have plain:∀ v w',wpListT P l.toArray Bt (NX Q) (l.drop (m+1)) (af.put o.dst v) w'->Inv2 (fun j=>D j\/j=m) (m+1) (a.put o.dst v) w':=fun v w' h=>behind v w' a.defers (by rw[haf]; exact h)
  unfold wpOp
  have hoa:l.toArray[m]? = some o:=by simpa using ho
  simp only[hoa]
  by_cases hw':Region.wanted o (yielded l.toArray a.tmps)=true
  .rw[if_pos hw']
   rw[if_pos (by rw[hwt]; exact hw')] at hwp
   refine .inl ?_
   unfold Oper.wp at hwp ⊢
   rw[hex] at hwp
   generalize (execOp a.eval o).run P w=r at hwp ⊢
   cases r with
   | ok x w'=>
    cases x <;> simp only[Oper.upon] at hwp ⊢
    case value v=>exact plain v w' hwp
    case skip=>exact plain undef w' hwp
    case defer d=>exact behind undef w' (d::a.defers) (by rw[hdf]; exact hwp)
    case enter f args=>
     refine Calls.mono hwp fun e w'' he=>?_
     cases e with
     | returned v=>exact plain v w'' he
     | panicked c=>exact he.elim
     | outgrown=>obtain⟨_,_,h⟩:=he; exact h.elim
    case row row args=>exact Rows.mono hwp fun v w'' he=>plain v w'' he
   | halt x w'=>cases x <;> simp only[Oper.upon] at hwp ⊢; exact hwp.elim
  rw[if_neg hw']
  rw[if_neg (by rw[hwt]; exact hw')] at hwp
  exact plain undef w hwp
 .-- one that floats
  intro D a w m i o hcl hi hm' hf ho hni hr hI
  obtain⟨u,af,hX,hwp,hdf,hsz,hszf,heq,hmiss,hlook,hpk⟩:=hI
  rw[hn] at hi hm'
  obtain⟨e,hTi⟩:=hlT i o hi ho
  have heat:e.eat=none:=by
   rcases t5 i o e hTi hf with ⟨c,rfl,_⟩|⟨φ,c,rfl,_⟩ <;> rfl
  obtain⟨c,hcv,hY0⟩:=hpk i (o,e) hTi hf hni
  simp only at hcv hY0
  obtain⟨GX,hleX,hX2⟩:=hX
  have hY:=hY0 GX hleX (Zgg fun p hp hpl=>by
   rcases ZcJ (T.take i) [] p hp with ⟨q,h,_⟩|h|⟨j,o',φ,h1,h2,h3,_⟩
   .cases h
   .exact h _ _
   rw[List.getElem?_take] at h1
   split at h1
   .rw[h3]
    refine hX2 j _ p.1 φ h1 h2 rfl fun i' q' hi' he=>?_
    obtain⟨e1,e2,_⟩:=t6 i' q'.1 q'.2 p.1 hi' he
    have:=ZjF e2 (hTl i' q' hi').2 ho e1 (by simpa using hpl)
    subst this
    rw[hTi] at hi'
    cases hi'
    rw[heat] at he
    cases he
   cases h1)
  have hanc:=Zb5 hcl i o ho hr
  let F:Fr:=undFr (undT (T.take i) []) u++(detT (T.take i) []++fr)
  have hF:∀ t v,F.get t=some v->t<N:=by
   intro t v hv
   by_cases hex:∃ (j:Nat) (q:Oper×Ent),j<i/\T[j]? = some q/\q.1.dst=some t
   .obtain⟨j,q,h1,h2,h3⟩:=hex
    obtain⟨a1,b1⟩:=hTl j q h2
    exact (Z1 hS a1 b1 h3).1
   have:=(frameOf i u t).1 (fun j q h1 h2 h3=>hex ⟨j,q,h1,h2,h3⟩)
   have hv':fr.get t=some v:=by rw[<- this]; exact hv
   have:=ha.here t v hv'
   have:=(Array.getElem?_eq_some_iff.1 this).1
   have hs0:=ha.size
   omega
  have hag:∀ t,t ∈ o.looksAt l.toArray->af.tmps[t]? = a.tmps[t]?:=fun t ht=>(heq t (fun j q hj hfj hnD hdt=>by
   obtain⟨a1,b1⟩:=hTl j q hj
   rcases Nat.lt_trichotomy j i with h|h|h
   .exact hnD (hanc j ((((Z1 hS a1 b1 hdt).2 i o hi ho (by omega)).2 ht).1 h))
   .subst h
    rw[hTi] at hj
    cases hj
    exact (Za0 hFl (by omega) hf ho ho).2 (Nat.le_refl _) hf t hdt ht
   exact (Za0 hFl (by omega) hfj b1 ho).2 (by omega) hf t hdt ht)).symm
  have hfill:∀ t,t ∈ o.looksAt l.toArray->(fill F a).tmps[t]? = a.tmps[t]?:=by
   intro t ht
   rw[Zei]
   cases hx:a.tmps[t]? with
   | none=>rfl
   | some x=>
    simp only[Option.map_some,Option.some.injEq]
    cases hfg:F.get t with
    | none=>rfl
    | some v=>
     have h1:=hlook i (o,e) hTi hf hni t ht v hfg
     rw[hag t ht,hx] at h1
     simpa using h1.symm
  have hrel:Rel N F (fill F { a with defers:=[] }):=Zie rfl hsz hF
  have hex:execOp (fill F { a with defers:=[] }).eval o=execOp a.eval o:=Zf5 (ops:=l.toArray) (fun cs b=>hnoSel i o cs b (by simpa using ho)) hfill
  have hwt:Region.wanted o (yielded l.toArray (fill F { a with defers:=[] }).tmps)=Region.wanted o (yielded l.toArray a.tmps):=Zer (a:=fill F { a with defers:=[] }) hfill
  unfold wpOp
  have hoa:l.toArray[i]? = some o:=by simpa using ho
  simp only[hoa]
  rw[if_pos (by rw[<- hwt,hrel.wanted hY.1])]
  refine .inl ?_
  have hbw:Bt w:=by
   generalize l.drop m=r at hwp
   cases r with
   | nil=>exact hwp.1
   | cons o' r=>exact hwp.1
  have hrun:=hY.2 (fill F { a with defers:=[] }) w hrel hbw
  rw[hex] at hrun
  simp only[Oper.wp,hrun,Oper.upon]
  refine⟨u,af,⟨GX,hleX,hX2⟩,hwp,by cases o.dst <;> exact hdf,by cases o.dst <;> simpa [Act.put] using hsz,hszf,fun t ht=>?_,fun j q t hj hfj hnD hdt=>?_,fun j q hj hfj hnD t ht v' hv'=>?_,fun j q hj hfj hnD=>hpk j q hj hfj (fun h=>hnD (.inl h))⟩
  .by_cases hdt:o.dst=some t
   .have htN:=(Z1 hS hi ho hdt).1
    rw[hdt]
    simp only[Act.put]
    rw[Array.getElem?_setIfInBounds_self_of_lt (by omega)]
    have h0:=hmiss i (o,e) t hTi hf hni hdt
    rw[hcv t hdt] at h0
    exact h0.symm
   have hput:(a.put o.dst c).tmps[t]? = a.tmps[t]?:=by
    cases ho':o.dst with
    | none=>rfl
    | some s=>
     simp only[Act.put]
     rw[Array.getElem?_setIfInBounds_ne (fun e=>hdt (by rw[ho',e]))]
   rw[hput]
   refine heq t (fun j q hj hfj hnD hd=>?_)
   by_cases hji:j=i
   .subst hji
    rw[hTi] at hj
    cases hj
    exact hdt hd
   exact ht j q hj hfj (fun h=>h.elim hnD hji) hd
  .exact hmiss j q t hj hfj (fun h=>hnD (.inl h)) hdt
  exact hlook j q hj hfj (fun h=>hnD (.inl h)) t ht v' hv'
 -- the end
 intro D a w m hall hml hI
 obtain⟨u,af,_,hwp,hdf,hsz,hszf,heq,_,_,_⟩:=hI
 rw[List.drop_eq_nil_of_le hml] at hwp
 replace hwp:=hwp.2
 have hta:a.tmps=af.tmps:=by
  apply Array.ext_getElem?
  intro t
  exact heq t (fun j q hj _ hnD=>absurd (hall j (List.getElem?_eq_some_iff.1 (hTl j q hj).2).1) hnD)
 have:a=af:=by cases a; cases af; simp only at hta hdf; subst hta; subst hdf; rfl
 rw[this]
 exact hwp
theorem WC.drawnG{id:Nat}{Bt:Asrt}{l0:List Oper}(hR:∀ a w,wpAny P .any l.toArray Q l.toArray.size (Array.replicate l.toArray.size false) a { w with drawn:=w.drawn+1 }->(Code.region id l0.toArray true).wp P Q a w)(hBt:Mem.le G0 G->∀ (X:Gx) w,Gx.le (Gx.of G) X->StX w0 G0 X L w->Bt w)(fl:List Bool)(hB:drawB N l fl=true)(h:Mem.le G0 G->Chain P N Q fr w0 G0 G L l.toArray Bt fl l [] []):
  WC P N (.region id l0.toArray true) Q fr (St w0 G0 G L):=drawnR hR hBt fl hB h
theorem WC.drawnT{id:Nat}{Bt:Asrt}(hBt:Mem.le G0 G->∀ (X:Gx) w,Gx.le (Gx.of G) X->StX w0 G0 X L w->Bt w)(fl:List Bool)(hm:P.follows .mixedOrders=true)(hB:drawB N l fl=true)(h:Mem.le G0 G->Chain P N Q fr w0 G0 G L l.toArray Bt fl l [] []):
  WC P N (.region id l.toArray true) Q fr (St w0 G0 G L):=WC.drawnG (fun _ _ k=>wp_region_any hm k) hBt fl hB h
theorem WC.drawn{id:Nat}(fl:List Bool)(hm:P.follows .mixedOrders=true)(hB:drawB N l fl=true)(h:Mem.le G0 G->Chain P N Q fr w0 G0 G L l.toArray (fun _=>True) fl l [] []):
  WC P N (.region id l.toArray true) Q fr (St w0 G0 G L):=WC.drawnT (fun _ _ _ _ _=>trivial) fl hm hB h
end
end Go.EL
namespace Go.EL
open Go.IntKind (i8 i16 i32 i64 u8 u16 u32 u64)
open Go Go.RowKit
def scal:TypeDesc->Bool
 | .struct _ | .array _ _=>false
 | _=>true
def ScalT(P:Program)(t:TypeId):Prop:=(P.underlying t).map scal=some true
def AggT(P:Program)(t:TypeId)(n:Nat):Prop:=(P.underlying t).map scal=some false/\(P.info? t).map (·.size)=some n
theorem ScalT.run{P:Program}{t:TypeId}(h:ScalT P t)(w:World):(isAgg t).run P w = .ok false w:=by
 unfold ScalT at h
 cases hu:P.underlying t with
 | none=>rw[hu] at h; cases h
 | some d=>rw[hu] at h; cases d <;> simp_all [isAgg,run_underlying hu,scal]
theorem AggT.run{P:Program}{t:TypeId}{n:Nat}(h:AggT P t n)(w:World):(isAgg t).run P w = .ok true w:=by
 have h:=h.1
 cases hu:P.underlying t with
 | none=>rw[hu] at h; cases h
 | some d=>rw[hu] at h; cases d <;> simp_all [isAgg,run_underlying hu,scal]
theorem run_sizeOf{P:Program}{t:TypeId}{n:Nat}(h:(P.info? t).map (·.size)=some n)(w:World):(sizeOf t).run P w = .ok n w:=by
 cases hq:P.info? t with
 | none=>simp[hq] at h
 | some i=>simp[hq] at h; simp[sizeOf,typeInfo,hq,h]
section
variable {P:Program}{N:Nat}{fr:Fr}{S:Asrt}{dst:Option Nat}{ty:TypeId}{pos:String}{af:Array Edge}{g:Option (Nat×Bool)}
theorem Y0.move{x:Operand}{v:Value}(hx:fr.ev x=some v):Y0 P N ⟨dst,.move x,ty,pos,af,g⟩ fr S v:=fun a w ha _=>by simp[execOp,ha.ev hx]
theorem Y0.assign{x:Operand}{v:Value}(hx:fr.ev x=some v):Y0 P N ⟨dst,.assign x,ty,pos,af,g⟩ fr S v:=fun a w ha _=>by simp[execOp,ha.ev hx]
theorem Y0.pickT{c x y:Operand}{v:Value}(hc:fr.ev c=some (.bool true))(hx:fr.ev x=some v):Y0 P N ⟨dst,.pick c x y,ty,pos,af,g⟩ fr S v:=fun a w ha _=>by
 simp[execOp,ha.ev hc,ha.ev hx,asBool]
theorem Y0.pickF{c x y:Operand}{v:Value}(hc:fr.ev c=some (.bool false))(hy:fr.ev y=some v):Y0 P N ⟨dst,.pick c x y,ty,pos,af,g⟩ fr S v:=fun a w ha _=>by
 simp[execOp,ha.ev hc,ha.ev hy,asBool]
theorem Y0.bin{op:BinOp}{t yt:TypeId}{x y:Operand}{vx vy v:Value}(hx:fr.ev x=some vx)(hy:fr.ev y=some vy)(hg:∀ w,(eqGuard op t x y vx vy).run P w = .ok () w)(h:∀ w,(binOp op t vx vy).run P w = .ok v w):
  Y0 P N ⟨dst,.binOp op t x y yt,ty,pos,af,g⟩ fr S v:=fun a w ha _=>by
 simp[execOp,ha.ev hx,ha.ev hy,hg w,h w]
theorem ZY(op:BinOp)(t:TypeId)(x y:Operand)(k k':IntKind)(a b:Int)(w:World):(eqGuard op t x y (.int k a) (.int k' b)).run P w = .ok () w:=by
 cases op <;> simp[eqGuard]
theorem ZiN(op:BinOp)(t:TypeId)(x y:Operand)(a b:Bool)(w:World):(eqGuard op t x y (.bool a) (.bool b)).run P w = .ok () w:=by
 cases op <;> simp[eqGuard]
theorem ZgV(op:BinOp)(t:TypeId)(x y:Operand)(a b:ByteArray)(w:World):(eqGuard op t x y (.string a) (.string b)).run P w = .ok () w:=by
 cases op <;> simp[eqGuard]
section
variable {t yt:TypeId}{x y:Operand}{k:IntKind}{a b:Int}
theorem Y0.add(hx:fr.ev x=some (.int k a))(hy:fr.ev y=some (.int k b)):Y0 P N ⟨dst,.binOp .add t x y yt,ty,pos,af,g⟩ fr S (.int k (k.wrap (a+b))):=
 Y0.bin hx hy (ZY _ _ _ _ _ _ _ _) fun w=>by simp[binOp,Op.intArith]
theorem Y0.sub(hx:fr.ev x=some (.int k a))(hy:fr.ev y=some (.int k b)):Y0 P N ⟨dst,.binOp .sub t x y yt,ty,pos,af,g⟩ fr S (.int k (k.wrap (a-b))):=
 Y0.bin hx hy (ZY _ _ _ _ _ _ _ _) fun w=>by simp[binOp,Op.intArith]
theorem Y0.mul(hx:fr.ev x=some (.int k a))(hy:fr.ev y=some (.int k b)):Y0 P N ⟨dst,.binOp .mul t x y yt,ty,pos,af,g⟩ fr S (.int k (k.wrap (a*b))):=
 Y0.bin hx hy (ZY _ _ _ _ _ _ _ _) fun w=>by simp[binOp,Op.intArith]
theorem Y0.lss(hx:fr.ev x=some (.int k a))(hy:fr.ev y=some (.int k b)):Y0 P N ⟨dst,.binOp .lss t x y yt,ty,pos,af,g⟩ fr S (.bool (decide (a<b))):=
 Y0.bin hx hy (ZY _ _ _ _ _ _ _ _) fun w=>by simp[binOp,Op.intCmp]
theorem Y0.leq(hx:fr.ev x=some (.int k a))(hy:fr.ev y=some (.int k b)):Y0 P N ⟨dst,.binOp .leq t x y yt,ty,pos,af,g⟩ fr S (.bool (decide (a<=b))):=
 Y0.bin hx hy (ZY _ _ _ _ _ _ _ _) fun w=>by simp[binOp,Op.intCmp]
theorem Y0.gtr(hx:fr.ev x=some (.int k a))(hy:fr.ev y=some (.int k b)):Y0 P N ⟨dst,.binOp .gtr t x y yt,ty,pos,af,g⟩ fr S (.bool (decide (b<a))):=
 Y0.bin hx hy (ZY _ _ _ _ _ _ _ _) fun w=>by simp[binOp,Op.intCmp]
theorem Y0.geq(hx:fr.ev x=some (.int k a))(hy:fr.ev y=some (.int k b)):Y0 P N ⟨dst,.binOp .geq t x y yt,ty,pos,af,g⟩ fr S (.bool (decide (b<=a))):=
 Y0.bin hx hy (ZY _ _ _ _ _ _ _ _) fun w=>by simp[binOp,Op.intCmp]
theorem ZpL(a b:Int):(a == b)=decide (a=b):=by by_cases h:a=b <;> simp[h]
theorem Y0.eql(hx:fr.ev x=some (.int k a))(hy:fr.ev y=some (.int k b)):Y0 P N ⟨dst,.binOp .eql t x y yt,ty,pos,af,g⟩ fr S (.bool (decide (a=b))):=
 Y0.bin hx hy (ZY _ _ _ _ _ _ _ _) fun w=>by rw[<- ZpL]; simp[binOp,Op.intCmp]
theorem Y0.neq(hx:fr.ev x=some (.int k a))(hy:fr.ev y=some (.int k b)):Y0 P N ⟨dst,.binOp .neq t x y yt,ty,pos,af,g⟩ fr S (.bool (decide (¬ a=b))):=
 Y0.bin hx hy (ZY _ _ _ _ _ _ _ _) fun w=>by
  have:(a != b)=decide (¬ a=b):=by by_cases h:a=b <;> simp[h]
  rw[<- this]; simp[binOp,Op.intCmp]
theorem Y0.quo(hx:fr.ev x=some (.int k a))(hy:fr.ev y=some (.int k b))(hb:b≠0):Y0 P N ⟨dst,.binOp .quo t x y yt,ty,pos,af,g⟩ fr S (.int k (k.wrap (a.tdiv b))):=
 Y0.bin hx hy (ZY _ _ _ _ _ _ _ _) fun w=>by simp[binOp,Op.intDiv,hb]
theorem Y0.rem(hx:fr.ev x=some (.int k a))(hy:fr.ev y=some (.int k b))(hb:b≠0):Y0 P N ⟨dst,.binOp .rem t x y yt,ty,pos,af,g⟩ fr S (.int k (a.tmod b)):=
 Y0.bin hx hy (ZY _ _ _ _ _ _ _ _) fun w=>by simp[binOp,Op.intDiv,hb]
theorem Y0.shl{k':IntKind}(hx:fr.ev x=some (.int k a))(hy:fr.ev y=some (.int k' b))(hb:0<=b):Y0 P N ⟨dst,.binOp .shl t x y yt,ty,pos,af,g⟩ fr S (.int k (k.wrap (a*2 ^ (min b.toNat k.bits)))):=
 Y0.bin hx hy (ZY _ _ _ _ _ _ _ _) fun w=>by
  have:¬ b<0:=by omega
  simp[binOp,Op.shift,this]
theorem Y0.shr{k':IntKind}(hx:fr.ev x=some (.int k a))(hy:fr.ev y=some (.int k' b))(hb:0<=b):Y0 P N ⟨dst,.binOp .shr t x y yt,ty,pos,af,g⟩ fr S (.int k (a.fdiv (2 ^ (min b.toNat k.bits)))):=
 Y0.bin hx hy (ZY _ _ _ _ _ _ _ _) fun w=>by
  have:¬ b<0:=by omega
  simp[binOp,Op.shift,this]
theorem Y0.or(hx:fr.ev x=some (.int k a))(hy:fr.ev y=some (.int k b)):Y0 P N ⟨dst,.binOp .or t x y yt,ty,pos,af,g⟩ fr S (.int k (k.wrap (BitVec.ofInt k.bits a ||| BitVec.ofInt k.bits b).toNat)):=
 Y0.bin hx hy (ZY _ _ _ _ _ _ _ _) fun w=>by simp[binOp,Op.intBits]
theorem Y0.and(hx:fr.ev x=some (.int k a))(hy:fr.ev y=some (.int k b)):Y0 P N ⟨dst,.binOp .and t x y yt,ty,pos,af,g⟩ fr S (.int k (k.wrap (BitVec.ofInt k.bits a &&& BitVec.ofInt k.bits b).toNat)):=
 Y0.bin hx hy (ZY _ _ _ _ _ _ _ _) fun w=>by simp[binOp,Op.intBits]
theorem Y0.eq{o:Oper}{v v':Value}(h:Y0 P N o fr S v)(e:v=v'):Y0 P N o fr S v':=e ▸ h
end
theorem run_equal_bool{t:TypeId}(ht:P.underlying t=some .bool)(a b:Bool)(w:World):(Op.equal t (.bool a) (.bool b)).run P w = .ok (a == b) w:=by
 have h:∀ d,(Op.equalIn (d+1) t (.bool a) (.bool b)).run P w = .ok (a == b) w:=fun d=>by simp[Op.equalIn,run_underlying ht]
 exact h 9999
theorem Y0.eqlB{t yt:TypeId}{x y:Operand}{a b:Bool}(ht:P.underlying t=some .bool)(hx:fr.ev x=some (.bool a))(hy:fr.ev y=some (.bool b)):Y0 P N ⟨dst,.binOp .eql t x y yt,ty,pos,af,g⟩ fr S (.bool (decide (a=b))):=
 Y0.bin hx hy (ZiN _ _ _ _ _ _) fun w=>by simp[binOp,run_equal_bool ht]; cases a <;> cases b <;> rfl
theorem Y0.neqB{t yt:TypeId}{x y:Operand}{a b:Bool}(ht:P.underlying t=some .bool)(hx:fr.ev x=some (.bool a))(hy:fr.ev y=some (.bool b)):Y0 P N ⟨dst,.binOp .neq t x y yt,ty,pos,af,g⟩ fr S (.bool (decide (¬ a=b))):=
 Y0.bin hx hy (ZiN _ _ _ _ _ _) fun w=>by simp[binOp,run_equal_bool ht]; cases a <;> cases b <;> rfl
theorem Y0.not{t:TypeId}{x:Operand}{b:Bool}(hx:fr.ev x=some (.bool b)):Y0 P N ⟨dst,.unOp .not t x,ty,pos,af,g⟩ fr S (.bool (!b)):=fun a w ha _=>by simp[execOp,ha.ev hx,Op.unary]
theorem Y0.neg{t:TypeId}{x:Operand}{k:IntKind}{n:Int}(hx:fr.ev x=some (.int k n)):Y0 P N ⟨dst,.unOp .neg t x,ty,pos,af,g⟩ fr S (.int k (k.wrap (0-n))):=fun a w ha _=>by simp[execOp,ha.ev hx,Op.unary,Op.intArith]
theorem Y0.conv{s d:TypeId}{x:Operand}{ds:TypeDesc}{k k':IntKind}{n:Int}(hs:P.underlying s=some ds)(hd:P.underlying d=some (.int k'))(hx:fr.ev x=some (.int k n)):Y0 P N ⟨dst,.convert s d x,ty,pos,af,g⟩ fr S (.int k' (k'.wrap n)):=fun a w ha _=>by
 simp[execOp,ha.ev hx,convert,run_underlying hs,run_underlying hd,Conv.intToInt]
theorem Y0.extract{x:Operand}{i:Nat}{vs:Array Value}{v:Value}(hx:fr.ev x=some (.tuple vs))(hv:vs[i]? = some v):Y0 P N ⟨dst,.extract x i,ty,pos,af,g⟩ fr S v:=fun a w ha _=>by
 simp[execOp,ha.ev hx,Instr.extract,hv]
theorem Zd5{t:TypeId}{cs:Array Value}{off:Nat}{v:Value}(ht:ScalT P t)(hv:cs[off]? = some v)(w:World):(part t cs off).run P w = .ok v w:=by
 simp[part,ht.run,hv]
theorem Y0.index{t e:TypeId}{x y:Operand}{len:Nat}{cs:Array Value}{k:IntKind}{i:Int}{v:Value}(ht:P.underlying t=some (.array len e))(he:ScalT P e)(hsz:(P.info? e).map (·.size)=some 1)
  (hx:fr.ev x=some (.agg cs)) (hy:fr.ev y=some (.int k i)) (hi:0<=i/\i<len) (hv:cs[i.toNat]? = some v):Y0 P N ⟨dst,.index t x y,ty,pos,af,g⟩ fr S v:=fun a w ha _=>by
 have hv':cs[i.toNat*1]? = some v:=by simpa using hv
 simp[execOp,ha.ev hx,ha.ev hy,Instr.index,asIntOf,run_underlying ht,hi,run_sizeOf hsz,Zd5 he hv]
theorem Z6(b off n:Nat):(⟨b,off,none⟩:Addr).add n=⟨b,off+n,none⟩:=by
 unfold Addr.add
 split
 .rename_i h; subst h; rfl
 rfl
theorem Y0.idxArr{t e:TypeId}{x y:Operand}{len b off sz:Nat}{k:IntKind}{i:Int}(ht:P.underlying t=some (.array len e))(hsz:(P.info? e).map (·.size)=some sz)
  (hx:fr.ev x=some (.pointer (some ⟨b,off,none⟩))) (hy:fr.ev y=some (.int k i)) (hi:0<=i/\i<len):Y0 P N ⟨dst,.indexAddr t x y,ty,pos,af,g⟩ fr S (.pointer (some ⟨b,off+i.toNat*sz,none⟩)):=fun a w ha _=>by
 simp[execOp,ha.ev hx,ha.ev hy,Instr.indexAt,asIntOf,run_underlying ht,hi,run_sizeOf hsz,Instr.sureAddr,Z6]
theorem Y0.idxSl{t e:TypeId}{x y:Operand}{len cap b off sz:Nat}{k:IntKind}{i:Int}(ht:P.underlying t=some (.slice e))(hsz:(P.info? e).map (·.size)=some sz)
  (hx:fr.ev x=some (.slice (some ⟨b,off,none⟩) len cap)) (hy:fr.ev y=some (.int k i)) (hi:0<=i/\i<len):Y0 P N ⟨dst,.indexAddr t x y,ty,pos,af,g⟩ fr S (.pointer (some ⟨b,off+i.toNat*sz,none⟩)):=fun a w ha _=>by
 simp[execOp,ha.ev hx,ha.ev hy,Instr.indexAt,asIntOf,run_underlying ht,hi,run_sizeOf hsz,Z6]
theorem Y0.fieldAddr{s:TypeId}{x:Operand}{f b off:Nat}{fs:Array Field}{fd:Field}(hs:P.underlying s=some (.struct fs))(hf:fs[f]? = some fd)(hp:∀ w,(fieldPlace ⟨b,off,none⟩ fd).run P w = .ok ⟨b,off+fd.offset,none⟩ w)
  (hx:fr.ev x=some (.pointer (some ⟨b,off,none⟩))):Y0 P N ⟨dst,.fieldAddr s x f,ty,pos,af,g⟩ fr S (.pointer (some ⟨b,off+fd.offset,none⟩)):=fun a w ha _=>by
 simp[execOp,ha.ev hx,Instr.fieldAt,run_underlying hs,hf,Instr.sureAddr,hp w]
theorem Y0.build{t:TypeId}{parts:Array (Nat×Operand)}{vs:Array (Nat×Value)}{v:Value}(hps:fr.evs (parts.toList.map (·.2))=some (vs.toList.map (·.2)))(hix:parts.toList.map (·.1)=vs.toList.map (·.1))
  (h:∀ w,(Instr.build t vs).run P w = .ok v w):Y0 P N ⟨dst,.build t parts,ty,pos,af,g⟩ fr S v:=fun a w ha _=>by
 have h1:=ha.evs _ _ hps
 have h2:(parts.map fun p=>(p.1,a.eval p.2))=vs:=by
  apply Array.ext'
  simp only[Array.toList_map]
  have hl:parts.toList.length=vs.toList.length:=by have:=congrArg List.length hix; simpa using this
  generalize parts.toList=ps at *
  generalize vs.toList=us at *
  induction ps generalizing us with
  | nil=>cases us <;> simp_all
  | cons p ps ih=>
   cases us with
   | nil=>simp at hl
   | cons q us=>
    simp only[List.map_cons,List.cons.injEq] at hix h1 ⊢
    refine⟨Prod.ext hix.1 h1.1,?_⟩
    simp only[Fr.evs,List.map_cons] at hps
    split at hps
    .rename_i v' us' e1 e2
     simp only[Option.some.injEq,List.cons.injEq] at hps
     exact ih us (by rw[e2,hps.2]) hix.2 h1.2 (by simpa using hl)
    cases hps
 have h3:(parts.map fun (i,x)=>(i,a.eval x))=vs:=h2
 simp only[execOp,h3]
 simp[h w]
theorem Y0.makeFunc{fn:Fn}{first captured:Array Operand}{v1 v2:List Value}(h1:fr.evs first.toList=some v1)(h2:fr.evs captured.toList=some v2):Y0 P N ⟨dst,.makeFunc fn first captured,ty,pos,af,g⟩ fr S (.func fn v1.toArray v2.toArray):=fun a w ha _=>by
 have e1:first.map a.eval=v1.toArray:=by apply Array.ext'; simpa using ha.evs _ _ h1
 have e2:captured.map a.eval=v2.toArray:=by apply Array.ext'; simpa using ha.evs _ _ h2
 simp[execOp,e1,e2,Instr.makeFunc]
theorem Y0.lenSl{x:Operand}{t e:TypeId}{p:Option Addr}{n cap:Nat}(ht:P.underlying t=some (.slice e))(hx:fr.ev x=some (.slice p n cap)):Y0 P N ⟨dst,.call ⟨.builtin .len,#[x],#[t]⟩,ty,pos,af,g⟩ fr S (.int .i64 (n:Int)):=fun a w ha _=>by
 simp[execOp,resolve,invoke,builtin,ha.ev hx,Builtin.len_,run_underlying ht,goInt]
theorem Y0.max2{x y:Operand}{ts:Array TypeId}{k k':IntKind}{a b:Int}(hx:fr.ev x=some (.int k a))(hy:fr.ev y=some (.int k' b)):Y0 P N ⟨dst,.call ⟨.builtin .max,#[x,y],ts⟩,ty,pos,af,g⟩ fr S (.int k (if a<b then b else a)):=fun A w ha _=>by
 simp[execOp,resolve,invoke,builtin,ha.ev hx,ha.ev hy,Builtin.max_,Builtin.max2]
theorem Y0.min2{x y:Operand}{ts:Array TypeId}{k k':IntKind}{a b:Int}(hx:fr.ev x=some (.int k a))(hy:fr.ev y=some (.int k' b)):Y0 P N ⟨dst,.call ⟨.builtin .min,#[x,y],ts⟩,ty,pos,af,g⟩ fr S (.int k (if b<a then b else a)):=fun A w ha _=>by
 simp[execOp,resolve,invoke,builtin,ha.ev hx,ha.ev hy,Builtin.min_,Builtin.min2]
end
end Go.EL

namespace Go.EL
open Go.IntKind (i8 i16 i32 i64 u8 u16 u32 u64)
open Go Go.RowKit Go.Proofs
section
variable {w0:Bs}{G0 G:Mem}{L:Lo}{w w':World}
theorem St.upd{i m':Nat}{x:Ow}{o':Obj}(h:St w0 G0 G L w)(hi:L.get i=some x)(hb:w'.heap[x.b]? = some o')(hm:x.m<=m')(hk:∀ k v,k<x.m->G x.b k=some v->w'.cell? ⟨x.b,k,none⟩=some v)(ho:∀ k,k≠x.b->w'.heap[k]? = w.heap[k]?)
  (h1:w'.os=w.os) (h2:w'.tape=w.tape) (h3:w'.output=w.output) (h5:w'.drawn=w.drawn) (h4:w'.heap.size=w.heap.size):St w0 G0 G ((i,some ⟨x.b,o',m'⟩)::L) w':=by
 obtain⟨l1,l2,l3⟩:=h.loc i x hi
 refine⟨h1.trans h.os,h2.trans h.tape,h3.trans h.output,by rw[h5]; exact h.drawn,by have:=h.size; omega,fun k hk' hn=>?_,h.base,fun b' o'' v hv=>?_,h.fresh,fun j y hj=>?_,fun j k y z hne e1 e2=>?_⟩
 .rw[ho k (fun e=>?_)]
  .exact h.block k hk' hn
  subst e
  rcases l2 with ⟨y,l2,hy⟩|l2
  .exact hn i y l2 hy
  omega
 .by_cases hne:b'=x.b
  .subst hne
   refine hk o'' v ?_ hv
   rcases Nat.lt_or_ge o'' x.m with hlt|hge
   .exact hlt
   rw[l3 o'' hge] at hv; cases hv
  rw[World.cell?_of_block (w:=w) (a:=⟨b',o'',none⟩) (ho b' hne)]
  exact h.imm b' o'' v hv
 .rw[Lo.Zi] at hj
  split at hj
  .rename_i hij
   subst hij
   simp only[Option.some.injEq] at hj
   subst hj
   exact⟨hb,l2,fun k hk'=>l3 k (Nat.le_trans hm hk')⟩
  rename_i hij
  obtain⟨m1,m2,m3⟩:=h.loc j y hj
  exact⟨by rw[ho y.b (fun e=>h.dist i j x y hij hi hj e.symm)]; exact m1,m2,m3⟩
 rw[Lo.Zi] at e1 e2
 split at e1 <;> split at e2
 .omega
 .rename_i hij hik
  simp only[Option.some.injEq] at e1
  subst e1
  exact h.dist i k x z hik hi e2
 .rename_i hij hik
  simp only[Option.some.injEq] at e2
  subst e2
  exact h.dist j i y x (fun e=>hij e.symm) e1 hi
 exact h.dist j k _ _ hne e1 e2
theorem St.push(i:Nat)(o:Obj)(h:St w0 G0 G L w):St w0 G0 G ((i,some ⟨w.heap.size,o,0⟩)::L) (w.alloc o):=by
 have hs:=h.size
 have lt:∀ j y,L.get j=some y->y.b<w.heap.size:=fun j y hj=>(Array.getElem?_eq_some_iff.1 (h.loc j y hj).1).1
 refine⟨h.os,h.tape,h.output,h.drawn,by simp; omega,fun k hk hn=>?_,h.base,fun b' o'' v hv=>?_,h.fresh,fun j y hj=>?_,fun j k y z hne e1 e2=>?_⟩
 .rw[Below.heap_alloc w o k (by omega)]
  exact h.block k hk hn
 .have:=h.imm.lt hv
  rw[World.cell?_alloc_lt (w:=w) (o:=o) (a:=⟨b',o'',none⟩) this]
  exact h.imm b' o'' v hv
 .rw[Lo.Zi] at hj
  split at hj
  .simp only[Option.some.injEq] at hj
   subst hj
   refine⟨heap_alloc_new w o,.inr hs,fun k _=>?_⟩
   cases hk:G w.heap.size k with
   | none=>rfl
   | some v=>have:=h.imm.lt hk; omega
  obtain⟨m1,m2,m3⟩:=h.loc j y hj
  exact⟨by rw[Below.heap_alloc w o y.b (lt j y hj)]; exact m1,m2,m3⟩
 rw[Lo.Zi] at e1 e2
 split at e1 <;> split at e2
 .omega
 .simp only[Option.some.injEq] at e1
  subst e1
  have:=lt _ _ e2
  dsimp only; omega
 .simp only[Option.some.injEq] at e2
  subst e2
  have:=lt _ _ e1
  dsimp only; omega
 exact h.dist j k _ _ hne e1 e2
def Mem.row(G:Mem)(b:Nat)(c:Array Value)(m n:Nat):Mem:=fun b' o=>if b'=b/\m<=o/\o<n then c[o]? else G b' o
theorem Mem.ZnL{b m:Nat}{c:Array Value}{n:Nat}(h:∀ k,m<=k->G b k=none):Mem.le G (Mem.row G b c m n):=fun b' o v hv=>by
 unfold Mem.row
 rw[if_neg (fun e=>by obtain⟨e1,e2,_⟩:=e; subst e1; rw[h _ e2] at hv; cases hv)]
 exact hv
theorem Mem.ZeB{b o m:Nat}{c:Array Value}{n:Nat}(h0:m<=o)(h:o<n):Mem.row G b c m n b o=c[o]?:=by simp[Mem.row,h0,h]
theorem St.know{i b m n:Nat}{c:Array Value}{t:TypeId}(h:St w0 G0 G L w)(hi:L.get i=some ⟨b,.cells c t (0,0),m⟩)(h0:w0.L.get i=none)(hmn:m<=n):
  St w0 G0 (Mem.row G b c m n) ((i,some ⟨b,.cells c t (0,0),n⟩)::L) w/\Mem.le G (Mem.row G b c m n):=by
 obtain⟨l1,l2,l3⟩:=h.loc i _ hi
 have hle:=Mem.ZnL (c:=c) (n:=n) l3
 have l2':w0.w.heap.size<=b:=l2.resolve_left (fun ⟨y,e,_⟩=>by rw[h0] at e; cases e)
 refine⟨⟨h.os,h.tape,h.output,h.drawn,h.size,h.block,Mem.le_trans h.base hle,fun b' o v hv=>?_,fun b' o v hv=>?_,fun j y hj=>?_,fun j k y z hne e1 e2=>?_⟩,hle⟩
 .unfold Mem.row at hv
  split at hv
  .rename_i e
   obtain⟨e1,_,_⟩:=e
   subst e1
   rw[cell_of_row w b' o c t (0,0) l1]; exact hv
  exact h.imm b' o v hv
 .unfold Mem.row at hv
  split at hv
  .rename_i e
   obtain⟨e1,_,_⟩:=e
   subst e1
   exact .inr (.inl l2')
  exact h.fresh b' o v hv
 .rw[Lo.Zi] at hj
  split at hj
  .rename_i hij
   subst hij
   simp only[Option.some.injEq] at hj
   subst hj
   refine⟨l1,l2,fun k hk=>?_⟩
   unfold Mem.row
   rw[if_neg (by dsimp only at hk ⊢; omega)]
   exact l3 k (Nat.le_trans hmn hk)
  rename_i hij
  obtain⟨m1,m2,m3⟩:=h.loc j y hj
  refine⟨m1,m2,fun k hk=>?_⟩
  have hb:y.b≠b:=fun e=>h.dist i j _ y hij hi hj e.symm
  unfold Mem.row
  rw[if_neg (fun e=>hb e.1)]
  exact m3 k hk
 rw[Lo.Zi] at e1 e2
 split at e1 <;> split at e2
 .omega
 .rename_i hij hik
  simp only[Option.some.injEq] at e1
  subst e1
  exact h.dist i k ⟨b,.cells c t (0,0),m⟩ z hik hi e2
 .rename_i hij hik
  simp only[Option.some.injEq] at e2
  subst e2
  exact h.dist j i y ⟨b,.cells c t (0,0),m⟩ (fun e=>hij e.symm) e1 hi
 exact h.dist j k _ _ hne e1 e2
theorem St.rekey{i j:Nat}{x:Option Ow}(h:St w0 G0 G L w)(hi:L.get i=x)(h0:w0.L.get i=none):St w0 G0 G ((j,x)::(i,none)::L) w:=by
 have key:∀ k y,Lo.get ((j,x)::(i,none)::L) k=some y->(k=j/\L.get i=some y)\/(k≠j/\k≠i/\L.get k=some y):=by
  intro k y hk
  rw[Lo.Zi] at hk
  split at hk
  .rename_i e; exact .inl ⟨e.symm,by rw[hi]; exact hk⟩
  rename_i e
  rw[Lo.Zi] at hk
  split at hk
  .cases hk
  rename_i e'; exact .inr ⟨fun q=>e q.symm,fun q=>e' q.symm,hk⟩
 refine⟨h.os,h.tape,h.output,h.drawn,h.size,h.block,h.base,h.imm,h.fresh,fun k y hk=>?_,fun k l y z hne e1 e2=>?_⟩
 .rcases key k y hk with ⟨rfl,hy⟩|⟨_,_,hy⟩
  .obtain⟨m1,m2,m3⟩:=h.loc i y hy
   exact⟨m1,.inr (m2.resolve_left (fun ⟨y,e,_⟩=>by rw[h0] at e; cases e)),m3⟩
  exact h.loc k y hy
 rcases key k y e1 with ⟨rfl,hy⟩|⟨k1,k2,hy⟩ <;> rcases key l z e2 with ⟨rfl,hz⟩|⟨l1,l2,hz⟩
 .omega
 .exact h.dist i l y z (fun e=>l2 e.symm) hy hz
 .exact h.dist k i y z k2 hy hz
 exact h.dist k l y z hne hy hz
end
section
variable {P:Program}{N:Nat}{Q:Post}{fr:Fr}{S:Asrt}{ops:Array Oper}{l:List Oper}{dst:Option Nat}{ty:TypeId}{pos:String}{af:Array Edge}{g:Option (Nat×Bool)}
variable {w0:Bs}{G0 G:Mem}{L:Lo}
theorem ZcH{t:TypeId}{a:Addr}{v:Value}{w:World}(ht:ScalT P t)(hc:w.cell? a=some v):(loadVar t a).run P w = .ok v w:=by
 simp[loadVar,ht.run,load,Sem.run,hc]
theorem Zbv{t:TypeId}{b off n:Nat}{vs:List Value}{w:World}(ht:AggT P t n)(hl:vs.length=n)(hc:∀ j v,vs[j]? = some v->w.cell? ⟨b,off+j,none⟩=some v):
  (loadVar t ⟨b,off,none⟩).run P w = .ok (.agg vs.toArray) w:=by
 have:=run_loadCells_list (P:=P) w ⟨b,off,none⟩ vs (fun j v hv=>by rw[Z6]; exact hc j v hv)
 subst hl
 simp[loadVar,ht.run,run_sizeOf ht.2,this]
theorem Y0.loadL{t t':TypeId}{x:Operand}{b off m:Nat}{c:Array Value}{v:Value}(i:Nat)(ht:ScalT P t)(hx:fr.ev x=some (.pointer (some ⟨b,off,none⟩)))
  (hi:L.get i=some ⟨b,.cells c t' (0,0),m⟩) (hv:c[off]? = some v):Y0 P N ⟨dst,.load t x,ty,pos,af,g⟩ fr (St w0 G0 G L) v:=fun a w ha hs=>by
 have hc:=cell_of_row w b off c t' (0,0) (hs.loc i _ hi).1
 rw[hv] at hc
 simp[execOp,ha.ev hx,Instr.loadAt,Instr.sureAddr,ZcH ht hc]
theorem Y0.loadLA{t t':TypeId}{x:Operand}{b n m:Nat}{c:Array Value}(i:Nat)(ht:AggT P t n)(hx:fr.ev x=some (.pointer (some ⟨b,0,none⟩)))
  (hi:L.get i=some ⟨b,.cells c t' (0,0),m⟩) (hn:c.size=n):Y0 P N ⟨dst,.load t x,ty,pos,af,g⟩ fr (St w0 G0 G L) (.agg c):=fun a w ha hs=>by
 have hc:=Zbv (P:=P) (w:=w) (b:=b) (off:=0) (vs:=c.toList) ht (by simpa using hn) (fun j v hj=>by
  rw[cell_of_row w b (0+j) c t' (0,0) (hs.loc i _ hi).1]
  simpa using hj)
 simp[execOp,ha.ev hx,Instr.loadAt,Instr.sureAddr,hc]
theorem Y0.loadLP{t t':TypeId}{x:Operand}{b off n m:Nat}{c:Array Value}(vs:Array Value)(i:Nat)(ht:AggT P t n)(hx:fr.ev x=some (.pointer (some ⟨b,off,none⟩)))
  (hi:L.get i=some ⟨b,.cells c t' (0,0),m⟩) (hn:vs.size=n) (hv:∀ j v,vs[j]? = some v->c[off+j]? = some v):Y0 P N ⟨dst,.load t x,ty,pos,af,g⟩ fr (St w0 G0 G L) (.agg vs):=fun a w ha hs=>by
 have hc:=Zbv (P:=P) (w:=w) (b:=b) (off:=off) (vs:=vs.toList) ht (by simpa using hn) (fun j v hj=>by
  rw[cell_of_row w b (off+j) c t' (0,0) (hs.loc i _ hi).1]
  exact hv j v (by simpa using hj))
 simp[execOp,ha.ev hx,Instr.loadAt,Instr.sureAddr,hc]
theorem Y0.loadG{t:TypeId}{x:Operand}{b off:Nat}{v:Value}(ht:ScalT P t)(hx:fr.ev x=some (.pointer (some ⟨b,off,none⟩)))
  (hv:G b off=some v):Y0 P N ⟨dst,.load t x,ty,pos,af,g⟩ fr (St w0 G0 G L) v:=fun a w ha hs=>by
 have hc:=hs.imm b off v hv
 simp[execOp,ha.ev hx,Instr.loadAt,Instr.sureAddr,ZcH ht hc]
theorem Y0.loadGA{t:TypeId}{x:Operand}{b off n:Nat}(vs:Array Value)(ht:AggT P t n)(hx:fr.ev x=some (.pointer (some ⟨b,off,none⟩)))
  (hn:vs.size=n) (hv:∀ j v,vs[j]? = some v->G b (off+j)=some v):Y0 P N ⟨dst,.load t x,ty,pos,af,g⟩ fr (St w0 G0 G L) (.agg vs):=fun a w ha hs=>by
 have hc:=Zbv (P:=P) (w:=w) (b:=b) (off:=off) (vs:=vs.toList) ht (by simpa using hn) (fun j v hj=>hs.imm _ _ _ (hv j v (by simpa using hj)))
 simp[execOp,ha.ev hx,Instr.loadAt,Instr.sureAddr,hc]
theorem Zn3{t:TypeId}{z:Value}(hz:(P.info? t).map (·.zero)=some (some z))(a:Act)(w:World):(execOp a.eval ⟨dst,.alloc t,ty,pos,af,g⟩).run P w = .ok (.value (.pointer (some ⟨w.heap.size,0,none⟩))) (w.alloc (.cells z.cells t)):=by
 cases hq:P.info? t with
 | none=>simp[hq] at hz
 | some inf=>
  simp only[hq,Option.map_some,Option.some.injEq] at hz
  simp[execOp,Instr.alloc,zeroValue,typeInfo,hq,hz,newVar,newRow]
theorem WL.alloc{t:TypeId}{z:Value}(i:Nat)(hg:guardOK ops fr ⟨dst,.alloc t,ty,pos,af,g⟩ true)(hz:(P.info? t).map (·.zero)=some (some z))(hd:dstOK N dst)
  (k:∀ b,WL P N ops Q l (putFr dst (.pointer (some ⟨b,0,none⟩)) fr) (St w0 G0 G ((i,some ⟨b,.cells z.cells t (0,0),0⟩)::L))):WL P N ops Q (⟨dst,.alloc t,ty,pos,af,g⟩::l) fr (St w0 G0 G L):=by
 refine WL.yr (Φ:=fun v w=>∃ b,v = .pointer (some ⟨b,0,none⟩)/\St w0 G0 G ((i,some ⟨b,.cells z.cells t (0,0),0⟩)::L) w) hg (fun a w ha hs=>?_) hd (fun v a w ha ⟨b,hb,hs⟩=>?_)
 .cases hq:P.info? t with
  | none=>simp[hq] at hz
  | some inf=>
   simp only[hq,Option.map_some,Option.some.injEq] at hz
   have:(execOp a.eval ⟨dst,.alloc t,ty,pos,af,g⟩).run P w = .ok (.value (.pointer (some ⟨w.heap.size,0,none⟩))) (w.alloc (.cells z.cells t)):=by
    simp[execOp,Instr.alloc,zeroValue,typeInfo,hq,hz,newVar,newRow]
   rw[this]
   exact⟨_,rfl,hs.push i _⟩
 subst hb
 exact k b a w ha hs
theorem WL.box{t:TypeId}{x:Operand}{v:Value}(i:Nat)(hg:guardOK ops fr ⟨dst,.box t x,ty,pos,af,g⟩ true)(hx:fr.ev x=some v)(hd:dstOK N dst)
  (k:∀ b,WL P N ops Q l (putFr dst (.pointer (some ⟨b,0,none⟩)) fr) (St w0 G0 G ((i,some ⟨b,.cells v.cells t (0,0),0⟩)::L))):WL P N ops Q (⟨dst,.box t x,ty,pos,af,g⟩::l) fr (St w0 G0 G L):=by
 refine WL.yr (Φ:=fun v' w=>∃ b,v' = .pointer (some ⟨b,0,none⟩)/\St w0 G0 G ((i,some ⟨b,.cells v.cells t (0,0),0⟩)::L) w) hg (fun a w ha hs=>?_) hd (fun v a w ha ⟨b,hb,hs⟩=>?_)
 .have:(execOp a.eval ⟨dst,.box t x,ty,pos,af,g⟩).run P w = .ok (.value (.pointer (some ⟨w.heap.size,0,none⟩))) (w.alloc (.cells v.cells t)):=by
   simp[execOp,Instr.box,ha.ev hx,newVar,newRow]
  rw[this]
  exact⟨_,rfl,hs.push i _⟩
 subst hb
 exact k b a w ha hs
theorem Zho{w:World}{b off:Nat}{c:Array Value}{t:TypeId}{v:Value}(h:w.heap[b]? = some (.cells c t (0,0))):(w.setCell ⟨b,off,none⟩ v).heap[b]? = some (.cells (c.setIfInBounds off v) t (0,0)):=heap_setCell_same w b off c t v h
theorem WL.storeL{t t':TypeId}{x y:Operand}{b off:Nat}{c:Array Value}{v:Value}(i:Nat)(c':Array Value)(hg:guardOK ops fr ⟨none,.store t x y,ty,pos,af,g⟩ true)(ht:(P.info? t).map (·.size)=some 1)
  (hx:fr.ev x=some (.pointer (some ⟨b,off,none⟩))) (hy:fr.ev y=some v) (hi:L.get i=some ⟨b,.cells c t' (0,0),0⟩) (ho:off<c.size) (h1:v.oneCell'=true) (hc':c.setIfInBounds off v=c')
  (k:WL P N ops Q l fr (St w0 G0 G ((i,some ⟨b,.cells c' t' (0,0),0⟩)::L))):WL P N ops Q (⟨none,.store t x y,ty,pos,af,g⟩::l) fr (St w0 G0 G L):=by
 subst hc'
 refine WL.ys' hg (fun a w ha hs=>?_) k
 have hb:=(hs.loc i _ hi).1
 refine⟨w.setCell ⟨b,off,none⟩ v,?_,hs.upd hi (Zho hb) (Nat.le_refl _) (fun k _ hk _=>absurd hk (Nat.not_lt_zero k)) (fun k hk=>Below.heap_setCell w ⟨b,off,none⟩ v k hk) rfl rfl rfl rfl (by simp)⟩
 have hc:=cell_of_row w b off c t' (0,0) hb
 rw[Array.getElem?_eq_getElem ho] at hc
 have hf:=frozen_of_row w b off c t' hb
 have hcl:v.cells = #[v]:=by cases v <;> first|rfl|simp[Value.oneCell'] at h1
 simp[execOp,ha.ev hx,ha.ev hy,Instr.storeAt,Instr.sureAddr,storeVar,run_sizeOf ht,hcl,storeCells,run_store P w _ v _ h1,Z6,hc,hf]
theorem WL.storeLA{t t':TypeId}{x y:Operand}{b n:Nat}{c c':Array Value}(i:Nat)(hg:guardOK ops fr ⟨none,.store t x y,ty,pos,af,g⟩ true)(ht:(P.info? t).map (·.size)=some n)
  (hx:fr.ev x=some (.pointer (some ⟨b,0,none⟩))) (hy:fr.ev y=some (.agg c')) (hi:L.get i=some ⟨b,.cells c t' (0,0),0⟩) (hn:c.size=n) (hn':c'.size=n) (h1:∀ u ∈ c'.toList,u.oneCell'=true)
  (k:WL P N ops Q l fr (St w0 G0 G ((i,some ⟨b,.cells c' t' (0,0),0⟩)::L))):WL P N ops Q (⟨none,.store t x y,ty,pos,af,g⟩::l) fr (St w0 G0 G L):=by
 refine WL.ys' hg (fun a w ha hs=>?_) k
 have hb:=(hs.loc i _ hi).1
 have hr:=run_storeVar_row (P:=P) w b t' t c c' hb (by rw[ht,hn']) (by omega) (by rw[Array.all_eq_true]; intro i hi; exact h1 _ (by simp))
 refine⟨w.setRow b c',?_,hs.upd hi ?_ (Nat.le_refl _) (fun k _ hk _=>absurd hk (Nat.not_lt_zero k)) (fun k hk=>?_) rfl rfl rfl rfl (by simp[World.setRow])⟩
 .simp[execOp,ha.ev hx,ha.ev hy,Instr.storeAt,Instr.sureAddr,hr]
 .simp[World.setRow,Array.getElem?_modify,hb]
 simp only[World.setRow,Array.getElem?_modify]
 rw[if_neg (fun e=>hk e.symm)]
theorem YC.of{f:FuncId}{args:Array Operand}{ats:Array TypeId}{vs:List Value}(he:Enters P f)(hv:fr.evs args.toList=some vs):YC P N ⟨dst,.call ⟨.value (.func f),args,ats⟩,ty,pos,af,g⟩ fr S f vs.toArray:=fun a w ha _=>by
 have e1:args.map a.eval=vs.toArray:=by apply Array.ext'; simpa using ha.evs _ _ hv
 simpa [execOp,resolve,e1,Act.eval,Deferred.ofValue,invoke] using he vs.toArray w
theorem YC.ofV{f:FuncId}{x:Operand}{args:Array Operand}{ats:Array TypeId}{vs:List Value}{cap:Array Value}(he:Enters P f)(hx:fr.ev x=some (.func (.func f) #[] cap))(hv:fr.evs args.toList=some vs):
  YC P N ⟨dst,.call ⟨.value x,args,ats⟩,ty,pos,af,g⟩ fr S f (vs.toArray++cap):=fun a w ha _=>by
 have e1:args.map a.eval=vs.toArray:=by apply Array.ext'; simpa using ha.evs _ _ hv
 simpa [execOp,resolve,e1,ha.ev hx,Deferred.ofValue,invoke] using he (vs.toArray++cap) w
theorem St.hp{L1:Lo}{w:World}(h:St w0 G0 G L w)(hs:Lo.sub L1 L):Hp G L1 w:=
 ⟨h.imm,fun i x e=>⟨(h.loc i x (hs _ _ e)).1,(h.loc i x (hs _ _ e)).2.2⟩,fun i j x y hne e e'=>h.dist i j x y hne (hs _ _ e) (hs _ _ e')⟩
theorem Ext.nil{w w':World}{G':Mem}{L':Lo}(h:Ext w G [] w' G' L'):Ext w G [] w' G' []:={ h with loc:=fun i x hh=>by simp[Lo.get] at hh,dist:=fun i j x y _ hh=>by simp[Lo.get] at hh }
def Lo.without(L:Lo)(ks:List Nat):Lo:=ks.map (fun k=>(k,none))++L
theorem Lo.Zcp{L:Lo}{i:Nat}:∀ {ks:List Nat}{x:Ow},(L.without ks).get i=some x->L.get i=some x/\i ∉ ks
 | [],_,h=>⟨h,by simp⟩
 | k::ks,x,h=>by
  simp only[Lo.without,List.map_cons,List.cons_append] at h
  rw[Lo.Zi] at h
  split at h
  .cases h
  rename_i hne
  obtain⟨h1,h2⟩:=Lo.Zcp (ks:=ks) h
  exact⟨h1,by simp only[List.mem_cons,not_or]; exact⟨fun e=>hne e.symm,h2⟩⟩
theorem Lo.get_append(A B:Lo)(i:Nat)(x:Ow)(h:Lo.get (A++B) i=some x):A.get i=some x\/B.get i=some x:=by
 induction A with
 | nil=>exact .inr h
 | cons p A ih=>
  obtain⟨k,q⟩:=p
  simp only[List.cons_append] at h
  rw[Lo.Zi] at h
  rw[Lo.Zi]
  split at h
  .rename_i e; rw[if_pos e]; exact .inl h
  rename_i e
  rw[if_neg e]
  exact ih h
theorem YC.yr{o:Oper}{f:FuncId}{args args':Array Value}{pre:Mem->Prop}{post:Mem->Value->Prop}(h:YC P N o fr (St w0 G0 G L) f args')(sp:Ctr P f args pre post)(e:args'=args)(hp:pre G):
  YR P N o fr (St w0 G0 G L) (fun v w'=>∃ G',Mem.le G G'/\St w0 G0 G' L w'/\post G' v):=fun a w ha hs=>by
 rw[h a w ha hs]
 subst e
 exact (sp w G (hs.hp (Lo.Zt _)) hp).mono fun e' w' ⟨r,G',L',q1,q2,q3⟩=>⟨r,q1,G',q2.le,hs.ext q2.nil (Lo.Zt _) (fun _ _ h=>h) (fun _ _ _=>rfl) (fun i x y hi=>by simp[Lo.get] at hi) (fun _ _ h=>.inr h),q3⟩
theorem WL.call{op:Op}{f:FuncId}{args args':Array Value}{pre:Mem->Prop}{post:Mem->Value->Prop}(hg:guardOK ops fr ⟨dst,op,ty,pos,af,g⟩ true)(hd:dstOK N dst)(h:YC P N ⟨dst,op,ty,pos,af,g⟩ fr (St w0 G0 G L) f args')
  (sp:Ctr P f args pre post) (e:args'=args) (hp:pre G) (k:∀ v G',Mem.le G G'->post G' v->WL P N ops Q l (putFr dst v fr) (St w0 G0 G' L)):WL P N ops Q (⟨dst,op,ty,pos,af,g⟩::l) fr (St w0 G0 G L):=
 WL.yr hg (h.yr sp e hp) hd (fun v a w ha ⟨G',h1,h2,h3⟩=>k v G' h1 h3 a w ha h2)
theorem YC.y0{o:Oper}{f:FuncId}{args args':Array Value}{pre:Mem->Prop}{c:Value}(h:YC P N o fr (St w0 G0 G L) f args')(sp:Ctr P f args pre (fun _ r=>r=c))(e:args'=args)(hp:pre G):
  YR P N o fr (St w0 G0 G L) (fun v w'=>v=c/\St w0 G0 G L w'):=fun a w ha hs=>(h.yr sp e hp a w ha hs).mono fun _ _ ⟨_,h1,h2,h3⟩=>⟨h3,h2.memLe hs.base h1⟩
theorem WL.call0{op:Op}{f:FuncId}{args args':Array Value}{pre:Mem->Prop}{c:Value}(hg:guardOK ops fr ⟨dst,op,ty,pos,af,g⟩ true)(hd:dstOK N dst)(h:YC P N ⟨dst,op,ty,pos,af,g⟩ fr (St w0 G0 G L) f args')
  (sp:Ctr P f args pre (fun _ r=>r=c)) (e:args'=args) (hp:pre G) (k:WL P N ops Q l (putFr dst c fr) (St w0 G0 G L)):WL P N ops Q (⟨dst,op,ty,pos,af,g⟩::l) fr (St w0 G0 G L):=
 WL.yr hg (h.y0 sp e hp) hd (fun v a w ha ⟨h1,h2⟩=>by subst h1; exact k a w ha h2)
theorem StX.ext{g:Gx}{G':Mem}{w w':World}(h:StX w0 G0 g L w)(e:Ext w g.m [] w' G' []):StX w0 G0 ⟨G',g.x⟩ L w' where
 st:=h.st.ext e (Lo.Zt _) (fun _ _ h=>h) (fun _ _ _=>rfl) (fun i x y hi=>by simp[Lo.get] at hi) (fun _ _ h=>.inr h)
 own:=fun b i o hb=>by
  obtain⟨h1,h2,h3,h4⟩:=h.own b i o hb
  have hlt:b<w.heap.size:=(Array.getElem?_eq_some_iff.1 h1).1
  refine⟨by rw[e.block b hlt (fun _ _ h=>by simp[Lo.get] at h)]; exact h1,h2,fun k=>?_,h4⟩
  cases hk:G' b k with
  | none=>exact hk
  | some v=>
   rcases e.fresh b k v hk with hh|hh|hh
   .rw[h3 k] at hh; cases hh
   .omega
   exact (Lo.ZpV hh).elim
theorem YC.yrX{o:Oper}{F:Fr}{g:Gx}{f:FuncId}{args args':Array Value}{pre:Mem->Prop}{post:Mem->Value->Prop}(h:YC P N o F (StX w0 G0 g L) f args')(sp:Ctr P f args pre post)(e:args'=args)(hp:pre g.m):
  YR P N o F (StX w0 G0 g L) (fun v w'=>∃ g':Gx,Gx.le g g'/\StX w0 G0 g' L w'/\post g'.m v):=fun a w ha hs=>by
 rw[h a w ha hs]
 subst e
 exact (sp w g.m (hs.st.hp (Lo.Zt _)) hp).mono fun e' w' ⟨r,G',L',q1,q2,q3⟩=>⟨r,q1,⟨G',g.x⟩,⟨q2.le,fun _ _ h=>h⟩,hs.ext q2.nil,q3⟩
theorem YC.y0X{o:Oper}{F:Fr}{g:Gx}{f:FuncId}{args args':Array Value}{pre:Mem->Prop}{c:Value}(h:YC P N o F (StX w0 G0 g L) f args')(sp:Ctr P f args pre (fun _ r=>r=c))(e:args'=args)(hp:pre g.m):
  YR P N o F (StX w0 G0 g L) (fun v w'=>∃ g':Gx,Gx.le g g'/\StX w0 G0 g' L w'/\v=c):=h.yrX sp e hp
theorem OpOK.y0{F:Fr}{G':Gx}{o:Oper}{c:Value}(hg:guardOK ops F o true)(h:Y0 P N o F (St w0 G0 G'.m L) c):OpOK P N w0 G0 L ops F G' o (fun v _=>v=c):=
 .inr ⟨hg,fun a w ha hs=>by rw[h a w ha hs.st]; exact⟨G',Gx.le_refl _,hs,rfl⟩⟩
theorem OpOK.call0{F:Fr}{G':Gx}{o:Oper}{f:FuncId}{args args':Array Value}{pre:Mem->Prop}{c:Value}(hg:guardOK ops F o true)(h:YC P N o F (StX w0 G0 G' L) f args')(sp:Ctr P f args pre (fun _ r=>r=c))(e:args'=args)(hp:pre G'.m):
  OpOK P N w0 G0 L ops F G' o (fun v _=>v=c):=.inr ⟨hg,h.y0X sp e hp⟩
theorem OpOK.call{F:Fr}{G':Gx}{o:Oper}{f:FuncId}{args args':Array Value}{pre:Mem->Prop}{post:Mem->Value->Prop}(hg:guardOK ops F o true)(h:YC P N o F (StX w0 G0 G' L) f args')(sp:Ctr P f args pre post)(e:args'=args)(hp:pre G'.m):
  OpOK P N w0 G0 L ops F G' o (fun v G''=>post G''.m v):=.inr ⟨hg,h.yrX sp e hp⟩
theorem OpOK.skip{F:Fr}{G':Gx}{o:Oper}(hg:guardOK ops F o false):OpOK P N w0 G0 L ops F G' o (fun v _=>v=undef):=.inl ⟨hg,rfl⟩
def Laid(d:Nat)(ob:Obj):Value->Gx->Prop:=fun v g=>∃ b,v = .pointer (some ⟨b,0,none⟩)/\g.x b=some (d,ob)
theorem Laid.mono{d:Nat}{ob:Obj}(v:Value)(g g':Gx)(h:Gx.leE d g g'):Laid d ob v g->Laid d ob v g':=fun ⟨b,h1,h2⟩=>⟨b,h1,h.2 _ _ h2⟩
theorem OpOK.laid{F:Fr}{G':Gx}{o:Oper}(d:Nat)(ob:Obj)(hg:guardOK ops F o true)(h:∀ a w,Rel N F a->(execOp a.eval o).run P w = .ok (.value (.pointer (some ⟨w.heap.size,0,none⟩))) (w.alloc ob)):OpOK P N w0 G0 L ops F G' o (Laid d ob):=
 .inr ⟨hg,fun a w ha hs=>by
  rw[h a w ha]
  refine⟨⟨G'.m,fun b=>if b=w.heap.size then some (d,ob) else G'.x b⟩,⟨Mem.le_refl _,fun b y hb=>?_⟩,⟨?_,fun b i o' hb=>?_⟩,w.heap.size,rfl,by simp⟩
  .obtain⟨i,o'⟩:=y
   have hlt:b<w.heap.size:=(Array.getElem?_eq_some_iff.1 (hs.own b i o' hb).1).1
   simp only[if_neg (show b≠w.heap.size by omega)]
   exact hb
  .have hnm:∀ (L:Lo) (n:Nat),∃ K,n<=K/\L.get K=none:=by
    intro L
    induction L with
    | nil=>intro n; exact⟨n,Nat.le_refl _,rfl⟩
    | cons p L ih=>
     intro n
     obtain⟨K,h1,h2⟩:=ih (max n (p.1+1))
     refine⟨K,by omega,?_⟩
     rw[Lo.Zi,if_neg (by omega)]
     exact h2
   obtain⟨K,_,hK⟩:=hnm L 0
   refine (hs.st.push K ob).weaken fun i x hx=>?_
   rw[Lo.Zi,if_neg (fun e=>by subst e; rw[hK] at hx; cases hx)]
   exact hx
  have hsz:=hs.st.size
  dsimp only at hb
  split at hb
  .rename_i e
   cases hb
   subst e
   refine⟨by unfold World.alloc; rw[Array.getElem?_push,if_pos rfl],hsz,fun k=>?_,fun j y hj=>?_⟩
   .cases hk:G'.m w.heap.size k with
    | none=>rfl
    | some v=>
     have:=hs.st.imm _ _ _ hk
     simp[World.cell?] at this
   have:=(Array.getElem?_eq_some_iff.1 (hs.st.loc j y hj).1).1
   omega
  obtain⟨h1,h2,h3,h4⟩:=hs.own b i o' hb
  have hlt:b<w.heap.size:=(Array.getElem?_eq_some_iff.1 h1).1
  refine⟨?_,h2,h3,h4⟩
  simp only[World.alloc,Array.getElem?_push,if_neg (show b≠w.heap.size by omega)]
  exact h1⟩
theorem StX.adopt{g:Gx}{w:World}{d b:Nat}{ob:Obj}(h:StX w0 G0 g L w)(hb:g.x b=some (d,ob)):StX w0 G0 ⟨g.m,fun k=>if k=b then none else g.x k⟩ ((d,some ⟨b,ob,0⟩)::L) w:=by
 obtain⟨h1,h2,h3,h4⟩:=h.own b d ob hb
 have hs:=h.st
 refine⟨⟨hs.os,hs.tape,hs.output,hs.drawn,hs.size,hs.block,hs.base,hs.imm,hs.fresh,fun j y hj=>?_,fun j k y z hne e1 e2=>?_⟩,fun b' i o' hb'=>?_⟩
 .rw[Lo.Zi] at hj
  split at hj
  .cases hj
   exact⟨h1,.inr h2,fun k _=>h3 k⟩
  exact hs.loc j y hj
 .rw[Lo.Zi] at e1 e2
  split at e1
  .cases e1
   split at e2
   .omega
   exact fun e=>h4 k z e2 e.symm
  split at e2
  .cases e2
   exact h4 j y e1
  exact hs.dist j k _ _ hne e1 e2
 dsimp only at hb'
 split at hb'
 .cases hb'
 rename_i hne
 obtain⟨k1,k2,k3,k4⟩:=h.own b' i o' hb'
 refine⟨k1,k2,k3,fun j y hj=>?_⟩
 rw[Lo.Zi] at hj
 split at hj
 .cases hj; exact fun e=>hne e.symm
 exact k4 j y hj
section
variable {fs:List Bool}{r:List Oper}{det:Fr}{und:Und}{o:Oper}{Bt:Asrt}
theorem Chain.cdet{c:Value}(h:∀ u G',Gx.le (Gx.of G) G'->undLook ops o und u G'->OpOK P N w0 G0 L ops (undFr und u++(det++fr)) G' o (fun v _=>v=c))(k:Chain P N Q fr w0 G0 G L ops Bt fs r (putFr o.dst c det) und):
  Chain P N Q fr w0 G0 G L ops Bt (false::fs) (o::r) det und:=.inl ⟨c,h,k⟩
theorem Chain.cund(d:Nat)(φ:Value->Gx->Prop)(hd:o.dst=some d)(hm:∀ v G₁ G₂,Gx.leE d G₁ G₂->φ v G₁->φ v G₂)
  (h:∀ u G',Gx.le (Gx.of G) G'->undLook ops o und u G'->OpOK P N w0 G0 L ops (undFr und u++(det++fr)) G' o φ) (k:Chain P N Q fr w0 G0 G L ops Bt fs r det ((d,φ)::und)) :
  Chain P N Q fr w0 G0 G L ops Bt (false::fs) (o::r) det und:=.inr (.inl ⟨d,φ,hd,hm,h,k⟩)
theorem Chain.ceat(d k:Nat)(φ:Value->Gx->Prop)(hd:o.dst=some d)(hk:und.any (fun p=>Nat.beq p.1 k)=true)(hl:(o.looksAt ops).contains k=true)(hs:soleB ops k=true)(hm:∀ v G₁ G₂,Gx.leE d G₁ G₂->φ v G₁->φ v G₂)
  (h:∀ u G',Gx.le (Gx.of G) G'->undLook ops o und u G'->OpOKO P N w0 G0 L ops (some k) (undFr und u++(det++fr)) G' o φ) (kk:Chain P N Q fr w0 G0 G L ops Bt fs r det ((d,φ)::eatO (some k) und)) :
  Chain P N Q fr w0 G0 G L ops Bt (false::fs) (o::r) det und:=.inr (.inr ⟨d,φ,k,hd,hk,hl,hs,hm,h,kk⟩)
theorem Chain.tail0(hb:Mem.le G0 G)(k:WL P N ops (NX Q) r (det++fr) (St w0 G0 G L)):Chain P N Q fr w0 G0 G L ops (fun _=>True) [] r det []:=fun _ _ hle _=>WLT.of fun a w ha hs=>k a w ha (hs.st.memLe hb hle.1)
theorem Chain.tail1{d:Nat}{ob:Obj}(hb:Mem.le G0 G)(k:∀ b,WL P N ops (NX Q) r ((d,.pointer (some ⟨b,0,none⟩))::(det++fr)) (St w0 G0 G ((d,some ⟨b,ob,0⟩)::L))):Chain P N Q fr w0 G0 G L ops (fun _=>True) [] r det [(d,Laid d ob)]  :=fun u g hle hu=>WLT.of fun a w ha hs=>by
 obtain⟨b,h1,h2⟩:=hu.1
 refine k b a w ?_ ((hs.adopt h2).st.memLe hb hle.1)
 have:undFr [(d,Laid d ob)] u=[(d,.pointer (some ⟨b,0,none⟩))]:=by simp[undFr,h1]
 rw[this] at ha
 exact ha
theorem Chain.y0{c:Value}(hg:guardOK ops (det++fr) o true)(h:∀ G',Mem.le G G'->Y0 P N o (det++fr) (St w0 G0 G' L) c)(k:Chain P N Q fr w0 G0 G L ops Bt fs r (putFr o.dst c det) []):
  Chain P N Q fr w0 G0 G L ops Bt (false::fs) (o::r) det []:=.inl ⟨c,fun _ G' hle _=>OpOK.y0 hg (h G'.m hle.1),k⟩
theorem Chain.float{c:Value}(hg:guardOK ops (det++fr) o true)(h:Y0 P N o (det++fr) (fun _=>True) c)(k:Chain P N Q fr w0 G0 G L ops Bt fs r (putFr o.dst c det) []):
  Chain P N Q fr w0 G0 G L ops Bt (true::fs) (o::r) det []:=.inl ⟨c,fun _ _ _ _=>⟨hg,fun a w ha _=>h a w ha trivial⟩,k⟩
theorem Chain.call0{f:FuncId}{args args':Array Value}{pre:Mem->Prop}{c:Value}(hg:guardOK ops (det++fr) o true)(h:∀ S,YC P N o (det++fr) S f args')(sp:Ctr P f args pre (fun _ r=>r=c))(e:args'=args)(hp:∀ G',Mem.le G G'->pre G')
  (k:Chain P N Q fr w0 G0 G L ops Bt fs r (putFr o.dst c det) []):Chain P N Q fr w0 G0 G L ops Bt (false::fs) (o::r) det []:=.inl ⟨c,fun _ G' hle _=>OpOK.call0 hg (h _) sp e (hp G'.m hle.1),k⟩
theorem Chain.skip(hg:guardOK ops (det++fr) o false)(k:Chain P N Q fr w0 G0 G L ops Bt fs r (putFr o.dst undef det) []):Chain P N Q fr w0 G0 G L ops Bt (false::fs) (o::r) det []:=.inl ⟨undef,fun _ _ _ _=>OpOK.skip hg,k⟩
theorem Chain.alloc{t:TypeId}{z:Value}{d:Nat}(hg:∀ u,guardOK ops (undFr und u++(det++fr)) ⟨some d,.alloc t,ty,pos,af,g⟩ true)(hz:(P.info? t).map (·.zero)=some (some z))
  (k:Chain P N Q fr w0 G0 G L ops Bt fs r det ((d,Laid d (.cells z.cells t (0,0)))::und)):Chain P N Q fr w0 G0 G L ops Bt (false::fs) (⟨some d,.alloc t,ty,pos,af,g⟩::r) det und:=
 Chain.cund d _ rfl (fun v _ _ h=>Laid.mono v _ _ h) (fun u _ _ _=>OpOK.laid d _ (hg u) (fun a w _=>Zn3 hz a w)) k
end
end
section
variable {w0:Bs}{G0 G:Mem}{L:Lo}
theorem Hp.st{w:World}(h:Hp G L w):St ⟨w,L⟩ G G L w:=
 ⟨rfl,rfl,rfl,Nat.le_refl _,Nat.le_refl _,fun _ _ _=>rfl,Mem.le_refl _,h.imm,fun _ _ _ h=>.inl h,fun i x hx=>⟨(h.loc i x hx).1,.inl ⟨x,hx,rfl⟩,(h.loc i x hx).2⟩,h.dist⟩
theorem St.toExt{G':Mem}{L':Lo}{w w':World}(h:St ⟨w,L⟩ G G' L' w'):Ext w G L w' G' L':=
 ⟨h.os,h.tape,h.output,h.drawn,h.size,h.block,h.base,h.imm,h.fresh,h.loc,h.dist⟩
end
def argFr:List Value->Nat->Fr
 | [],_=>[]
 | v::r,k=>(k,v)::argFr r (k+1)
theorem ZgL:∀ (l:List Value) (k t:Nat) (v:Value),Fr.get (argFr l k) t=some v->k<=t/\l[t-k]? = some v
 | [],k,t,v,h=>by simp[argFr,Fr.get] at h
 | x::r,k,t,v,h=>by
  simp only[argFr] at h
  rw[Fr.Zi] at h
  split at h
  .rename_i e
   subst e
   simpa using h
  have:=ZgL r (k+1) t v h
  refine⟨by omega,?_⟩
  rw[show t-k=(t-(k+1))+1 by omega]
  simpa using this.2
section
variable {P:Program}{fn:Func}{fr:Fr}{w0:Bs}{G0 G:Mem}{L:Lo}{N:Nat}
theorem CtrL.enter{f:FuncId}{c:Code}{args:List Value}{L0:Lo}{pre:Mem->Prop}{post:Mem->Lo->Value->Prop}(hf:P.funcs[f]? = some fn)(hb:fn.body=some c)(hN:fn.ntmps=N)(ha:Nat.ble args.length N=true)
  (h:∀ w0 G0,w0.L=L0->pre G0->WC P N c (bodyPost P fn (RetL w0 G0 post)) (argFr args 0) (St w0 G0 G0 L0)):CtrL P f args.toArray L0 pre post:=by
 intro w G hi hp
 refine calls_of_wp hf hb (h ⟨w,L0⟩ G rfl hp _ w ⟨rfl,?_,fun t v hv=>?_⟩ ⟨rfl,rfl,rfl,Nat.le_refl _,Nat.le_refl _,fun _ _ _=>rfl,Mem.le_refl _,hi.imm,fun _ _ _ h=>.inl h,fun i x hh=>⟨(hi.loc i x hh).1,.inl ⟨x,hh,rfl⟩,(hi.loc i x hh).2⟩,hi.dist⟩)
 .have:=Nat.le_of_ble_eq_true ha
  simp only[Array.size_append,List.size_toArray,Array.size_replicate]
  omega
 obtain⟨_,h2⟩:=ZgL args 0 t v hv
 simp only[Nat.sub_zero] at h2
 have hlt:=(List.getElem?_eq_some_iff.1 h2).1
 rw[Array.getElem?_append_left (by simpa using hlt)]
 simpa using h2
theorem Ctr.enter{f:FuncId}{c:Code}{args:List Value}{pre:Mem->Prop}{post:Mem->Value->Prop}(hf:P.funcs[f]? = some fn)(hb:fn.body=some c)(hN:fn.ntmps=N)(ha:Nat.ble args.length N=true)
  (h:∀ w0 G0,w0.L=[]->pre G0->WC P N c (bodyPost P fn (RetTo w0 G0 post)) (argFr args 0) (St w0 G0 G0 [])):Ctr P f args.toArray pre post:=CtrL.enter hf hb hN ha h
def RV(P:Program)(fr:Fr)(L:Lo):ResultVar->Value->Prop
 | .tmp t,v=>fr.get t=some v
 | .cell t ty,v=>∃ i b c t' m,fr.get t=some (.pointer (some ⟨b,0,none⟩))/\L.get i=some ⟨b,.cells c t' (0,0),m⟩/\((∃ n,AggT P ty n/\c.size=n/\v = .agg c)\/(ScalT P ty/\c[0]? = some v))
theorem RV.cellA{t ty t' i b n m:Nat}{c:Array Value}(ht:AggT P ty n)(h1:fr.get t=some (.pointer (some ⟨b,0,none⟩)))(h2:L.get i=some ⟨b,.cells c t' (0,0),m⟩)(hn:c.size=n):RV P fr L (.cell t ty) (.agg c):=
 ⟨i,b,c,t',m,h1,h2,.inl ⟨n,ht,hn,rfl⟩⟩
def rvRun(tmps:Array Value):ResultVar->Sem Value
 | .tmp t=>pure (tmps.getD t undef)
 | .cell a t=>do loadVar t (<- asAddr (tmps.getD a undef))
theorem RV.run{rv:ResultVar}{v:Value}{a:Act}{w:World}(h:RV P fr L rv v)(ha:Rel N fr a)(hs:St w0 G0 G L w):(rvRun a.tmps rv).run P w = .ok v w:=by
 cases rv with
 | tmp t=>simp[rvRun,ha.here t v h]
 | cell t ty=>
  obtain⟨i,b,c,t',m,h1,h2,h3⟩:=h
  have hb:=(hs.loc i _ h2).1
  have h0:a.tmps.getD t undef = .pointer (some ⟨b,0,none⟩):=by simp[ha.here t _ h1]
  rcases h3 with ⟨n,h4,h5,rfl⟩|⟨h4,h5⟩
  .have:=Zbv (P:=P) (w:=w) (b:=b) (off:=0) (vs:=c.toList) h4 (by simpa using h5) (fun j v hj=>by
    rw[cell_of_row w b (0+j) c t' (0,0) hb]
    simpa using hj)
   simp only[rvRun,h0,asAddr]
   simpa using this
  have hc:=cell_of_row w b 0 c t' (0,0) hb
  rw[h5] at hc
  have:=ZcH (P:=P) h4 hc
  simp only[rvRun,h0,asAddr]
  simpa using this
theorem Zm1(fn:Func)(tmps:Array Value):results fn tmps=(do let vs <- fn.results.mapM (rvRun tmps); pure (if h:vs.size=1 then vs[0] else .tuple vs)):=by
 unfold results
 congr 2
theorem Zfk{rvs:List ResultVar}{vs:List Value}{a:Act}{w:World}(hr:fn.results=rvs.toArray)(hl:rvs.length=vs.length)(h:∀ (i:Nat) (rv:ResultVar) (v:Value),rvs[i]? = some rv->vs[i]? = some v->(rvRun a.tmps rv).run P w = .ok v w):
  (results fn a.tmps).run P w = .ok (if h:vs.toArray.size=1 then vs.toArray[0] else .tuple vs.toArray) w:=by
 have key:∀ (rvs:List ResultVar) (vs:List Value),rvs.length=vs.length->(∀ (i:Nat) (rv:ResultVar) (v:Value),rvs[i]? = some rv->vs[i]? = some v->(rvRun a.tmps rv).run P w = .ok v w)->(rvs.mapM (rvRun a.tmps)).run P w = .ok vs w:=by
  intro rvs
  induction rvs with
  | nil=>intro vs hl _; cases vs with|nil=>simp|cons=>simp at hl
  | cons rv rvs ih=>
   intro vs hl h
   cases vs with
   | nil=>simp at hl
   | cons v vs=>
    have h0:=h 0 rv v rfl rfl
    have h1:=ih vs (by simpa using hl) (fun i rv' v' e1 e2=>h (i+1) rv' v' (by simpa using e1) (by simpa using e2))
    simp[List.mapM_cons,h0,h1]
 rw[Zm1,hr]
 have hm:=key rvs vs hl h
 rw[List.mapM_toArray]
 simp[hm]
theorem WE.ret{rvs:List ResultVar}{post:Mem->Lo->Value->Prop}(vs:List Value)(hr:fn.results=rvs.toArray)(hl:rvs.length=vs.length)(h:∀ (i:Nat) (rv:ResultVar) (v:Value),rvs[i]? = some rv->vs[i]? = some v->RV P fr L rv v)
  (hp:post G L (if h:vs.toArray.size=1 then vs.toArray[0] else .tuple vs.toArray)):WE N (bodyPost P fn (RetL w0 G0 post)) .ret fr (St w0 G0 G L):=fun a w ha hs=>
 ⟨ha.defers,_,Zfk hr hl (fun i rv v e1 e2=>(h i rv v e1 e2).run ha hs),_,G,L,rfl,⟨hs.os,hs.tape,hs.output,hs.drawn,hs.size,hs.block,hs.base,hs.imm,hs.fresh,hs.loc,hs.dist⟩,hp⟩
theorem WE.retN{post:Mem->Lo->Value->Prop}(h:WE N (bodyPost P fn (RetL w0 G0 post)) .ret fr (St w0 G0 G L)):WE N (bodyPost P fn (RetL w0 G0 post)) .normal fr (St w0 G0 G L):=h
theorem WE.ret1{r1:ResultVar}{v1:Value}{post:Mem->Lo->Value->Prop}(hr:fn.results = #[r1])(h1:RV P fr L r1 v1)(hp:post G L v1):WE N (bodyPost P fn (RetL w0 G0 post)) .ret fr (St w0 G0 G L):=
 WE.ret (rvs:=[r1]) [v1] hr rfl (fun i rv v e1 e2=>by
  match i with
  | 0=>simp at e1 e2; subst e1 e2; exact h1
  | i+1=>simp at e1) hp
theorem WE.ret2{r1 r2:ResultVar}{v1 v2:Value}{post:Mem->Lo->Value->Prop}(hr:fn.results = #[r1,r2])(h1:RV P fr L r1 v1)(h2:RV P fr L r2 v2)(hp:post G L (.tuple #[v1,v2])):WE N (bodyPost P fn (RetL w0 G0 post)) .ret fr (St w0 G0 G L):=
 WE.ret (rvs:=[r1,r2]) [v1,v2] hr rfl (fun i rv v e1 e2=>by
  match i with
  | 0=>simp at e1 e2; subst e1 e2; exact h1
  | 1=>simp at e1 e2; subst e1 e2; exact h2
  | i+2=>simp at e1) hp
theorem WE.ret3{r1 r2 r3:ResultVar}{v1 v2 v3:Value}{post:Mem->Lo->Value->Prop}(hr:fn.results = #[r1,r2,r3])(h1:RV P fr L r1 v1)(h2:RV P fr L r2 v2)(h3:RV P fr L r3 v3)(hp:post G L (.tuple #[v1,v2,v3])):
  WE N (bodyPost P fn (RetL w0 G0 post)) .ret fr (St w0 G0 G L):=
 WE.ret (rvs:=[r1,r2,r3]) [v1,v2,v3] hr rfl (fun i rv v e1 e2=>by
  match i with
  | 0=>simp at e1 e2; subst e1 e2; exact h1
  | 1=>simp at e1 e2; subst e1 e2; exact h2
  | 2=>simp at e1 e2; subst e1 e2; exact h3
  | i+3=>simp at e1) hp
theorem WE.ret0{post:Mem->Lo->Value->Prop}(hr:fn.results = #[])(hp:post G L (.tuple #[])):WE N (bodyPost P fn (RetL w0 G0 post)) .ret fr (St w0 G0 G L):=
 WE.ret (rvs:=[]) [] hr rfl (fun i rv v e1 e2=>by simp at e1) hp
end
end Go.EL
namespace Go.EL
open Go.IntKind (i8 i16 i32 i64 u8 u16 u32 u64)
open Go Go.RowKit Go.Proofs
section
variable {P:Program}{N:Nat}{Q:Post}{fr:Fr}{S:Asrt}{ops:Array Oper}{l:List Oper}{dst:Option Nat}{ty:TypeId}{pos:String}{af:Array Edge}{g:Option (Nat×Bool)}
variable {w0:Bs}{G0 G:Mem}{L:Lo}
theorem WL.caseY0{op:Op}{p:Prop}[Decidable p](hg:guardOK ops fr ⟨dst,op,ty,pos,af,g⟩ true)(h:Y0 P N ⟨dst,op,ty,pos,af,g⟩ fr S (.bool (decide p)))(hd:dstOK N dst)
  (kt:p->WL P N ops Q l (putFr dst (.bool true) fr) S) (kf:¬ p->WL P N ops Q l (putFr dst (.bool false) fr) S):WL P N ops Q (⟨dst,op,ty,pos,af,g⟩::l) fr S:=by
 by_cases hp:p
 .exact WL.y0' hg (h.eq (congrArg Value.bool (decide_eq_true hp))) hd (kt hp)
 exact WL.y0' hg (h.eq (congrArg Value.bool (decide_eq_false hp))) hd (kf hp)
theorem Chain.caseY0{Bt:Asrt}{fs:List Bool}{r:List Oper}{det:Fr}{o:Oper}{p:Prop}[Decidable p](hg:guardOK ops (det++fr) o true)(h:∀ G',Mem.le G G'->Y0 P N o (det++fr) (St w0 G0 G' L) (.bool (decide p)))
  (kt:p->Chain P N Q fr w0 G0 G L ops Bt fs r (putFr o.dst (.bool true) det) []) (kf:¬ p->Chain P N Q fr w0 G0 G L ops Bt fs r (putFr o.dst (.bool false) det) []):Chain P N Q fr w0 G0 G L ops Bt (false::fs) (o::r) det []:=by
 by_cases hp:p
 .exact Chain.y0 hg (fun G' hle=>(h G' hle).eq (congrArg Value.bool (decide_eq_true hp))) (kt hp)
 exact Chain.y0 hg (fun G' hle=>(h G' hle).eq (congrArg Value.bool (decide_eq_false hp))) (kf hp)
theorem Y0.notD{t:TypeId}{x:Operand}{p:Prop}[Decidable p](hx:fr.ev x=some (.bool (decide p))):Y0 P N ⟨dst,.unOp .not t x,ty,pos,af,g⟩ fr S (.bool (decide (¬ p))):=
 (Y0.not hx).eq (by by_cases h:p <;> simp[h])
theorem Y0.idxSlN{t e:TypeId}{x y:Operand}{len cap b off sz i:Nat}{k:IntKind}(ht:P.underlying t=some (.slice e))(hsz:(P.info? e).map (·.size)=some sz)
  (hx:fr.ev x=some (.slice (some ⟨b,off,none⟩) len cap)) (hy:fr.ev y=some (.int k (i:Int))) (hi:i<len):Y0 P N ⟨dst,.indexAddr t x y,ty,pos,af,g⟩ fr S (.pointer (some ⟨b,off+i*sz,none⟩)):=
 (Y0.idxSl ht hsz hx hy (by omega)).eq (by simp)
def BackH{X:Type}(N:Nat)(F:X->Fr)(H:X->Prop)(I:X->Asrt)(m:X->Nat)(x:X):Act->World->Prop:=fun a w=>∃ x',H x'/\Rel N (F x') a/\I x' w/\m x'<m x
theorem WC.loopH{c:Code}{X:Type}(F:X->Fr)(H:X->Prop)(I:X->Asrt)(m:X->Nat)(x₀:X)(hF:Fr.sub (F x₀) fr)(hH:H x₀)(hI:∀ w,S w->I x₀ w)
  (round:∀ x,H x->WC P N c (Exit.then (BackH N F H I m x) Q) (F x) (I x)):WC P N (.loop c) Q fr S:=
 WC.loop (fun x:{ x:X // H x }=>F x.1) (fun x=>I x.1) (fun x=>m x.1) ⟨x₀,hH⟩ hF hI fun x a w ha hs=>Code.wp_mono (fun e a' w' hq=>by
  cases e <;> first|exact hq|(obtain⟨x',q1,q2,q3,q4⟩:=hq; exact⟨⟨x',q1⟩,q2,q3,q4⟩)) (round x.1 x.2 a w ha hs)
theorem WE.backH{X:Type}{F:X->Fr}{H:X->Prop}{I:X->Asrt}{m:X->Nat}{x:X}(x':X)(hH:H x')(hF:Fr.sub (F x') fr)(hI:∀ w,S w->I x' w)(hm:m x'<m x):
  WE N (Exit.then (BackH N F H I m x) Q) .normal fr S:=fun _ w ha hs=>⟨x',hH,ha.weaken hF,hI w hs,hm⟩
end
end Go.EL
namespace Go.EL
open Go.IntKind (i8 i16 i32 i64 u8 u16 u32 u64)
open Go
structure Cq (α:Type) where
 wp:(α->Prop)->Prop
 mono:∀ {p q:α->Prop},(∀ a,p a->q a)->wp p->wp q
 ev:Nat->Option α
 sound:∀ n a,ev n=some a->∀ p:α->Prop,p a->wp p
def Cq.Ret{α:Type}(c:Cq α)(r:α):Prop:=c.wp fun a=>a=r
def Out{σ ρ:Type}(A:σ->Prop)(Φ:ρ->Prop):σ⊕ρ->Prop
 | .inl s=>A s
 | .inr r=>Φ r
theorem Out.mono{σ ρ:Type}{A A':σ->Prop}{Φ Φ':ρ->Prop}(h:∀ s,A s->A' s)(k:∀ r,Φ r->Φ' r):∀ o,Out A Φ o->Out A' Φ' o
 | .inl s,x=>h s x
 | .inr r,x=>k r x
namespace Cq
open Go.IntKind (i8 i16 i32 i64 u8 u16 u32 u64)
variable {α β σ ρ:Type}
def ret(a:α):Cq α:=⟨fun p=>p a,fun h=>h a,fun _=>some a,fun n b h p hp=>by cases h; exact hp⟩
def fail:Cq α:=⟨fun _=>False,fun _ h=>h,fun _=>none,fun _ _ h=>by cases h⟩
def bind(c:Cq α)(k:α->Cq β):Cq β:=
 ⟨fun p=>∃ a,c.Ret a/\(k a).wp p,fun h ⟨a,h1,h2⟩=>⟨a,h1,(k a).mono h h2⟩,fun n=>(c.ev n).bind fun a=>(k a).ev n,fun n b h p hp=>by
  cases hc:c.ev n with
  | none=>rw[hc] at h; cases h
  | some a=>rw[hc] at h; exact⟨a,c.sound n a hc _ rfl,(k a).sound n b h p hp⟩⟩
def next(c:Cq α)(k:α->Cq β):Cq β:=
 ⟨fun p=>c.wp fun a=>(k a).wp p,fun h=>c.mono fun a=>(k a).mono h,fun n=>(c.ev n).bind fun a=>(k a).ev n,fun n b h p hp=>by
  cases hc:c.ev n with
  | none=>rw[hc] at h; cases h
  | some a=>rw[hc] at h; exact c.sound n a hc _ ((k a).sound n b h p hp)⟩
def chk(p:Prop)[Decidable p](c:Cq α):Cq α:=⟨fun q=>p/\c.wp q,fun h ⟨h1,h2⟩=>⟨h1,c.mono h h2⟩,fun n=>if p then c.ev n else none,fun n a h q hq=>by
 by_cases hp:p
 .rw[if_pos hp] at h; exact⟨hp,c.sound n a h q hq⟩
 rw[if_neg hp] at h; cases h⟩
def at'(l:List α)(i:Int)(k:α->Cq β):Cq β:=⟨fun p=>∃ a,(0<=i/\l[i.toNat]? = some a)/\(k a).wp p,fun h ⟨a,h1,h2⟩=>⟨a,h1,(k a).mono h h2⟩,
 fun n=>if 0<=i then (l[i.toNat]?).bind fun a=>(k a).ev n else none,fun n b h p hp=>by
 by_cases hi:0<=i
 .rw[if_pos hi] at h
  cases hl:l[i.toNat]? with
  | none=>rw[hl] at h; cases h
  | some a=>rw[hl] at h; exact⟨a,⟨hi,rfl⟩,(k a).sound n b h p hp⟩
 rw[if_neg hi] at h; cases h⟩
def any(q:α->Prop)(k:α->Cq β):Cq β:=⟨fun p=>∀ a,q a->(k a).wp p,fun h h1 a ha=>(k a).mono h (h1 a ha),fun _=>none,fun _ _ h=>by cases h⟩
def loopEv(step:σ->Cq (σ⊕ρ))(n:Nat):Nat->σ->Option ρ
 | 0,_=>none
 | k+1,s=>match (step s).ev n with
  | none=>none
  | some (.inr r)=>some r
  | some (.inl s')=>loopEv step n k s'
theorem Zg5(step:σ->Cq (σ⊕ρ))(n:Nat)(p:ρ->Prop):∀ k s r,loopEv step n k s=some r->p r->∀ A:σ->Prop,(∀ s,(step s).wp (Out A p)->A s)->A s
 | 0,_,_,h=>by cases h
 | k+1,s,r,h=>by
  intro hp A hA
  simp only[loopEv] at h
  split at h
  .cases h
  .rename_i r' hr
   simp only[Option.some.injEq] at h
   subst h
   exact hA s ((step s).sound n _ hr _ hp)
  rename_i s' hs
  exact hA s ((step s).sound n _ hs _ (Zg5 step n p k s' r h hp A hA))
def loop(step:σ->Cq (σ⊕ρ))(s:σ):Cq ρ:=⟨fun p=>∀ A:σ->Prop,(∀ s,(step s).wp (Out A p)->A s)->A s,fun h h1 A hA=>h1 A fun s hs=>hA s ((step s).mono (Out.mono (fun _ x=>x) h) hs),
 fun n=>loopEv step n n s,fun n a h p hp=>Zg5 step n p n s a h hp⟩
theorem Zm{step:σ->Cq (σ⊕ρ)}{s:σ}{p:ρ->Prop}(h:(step s).wp (Out (fun s'=>(loop step s').wp p) p)):(loop step s).wp p:=
 fun A hA=>hA s ((step s).mono (Out.mono (fun s' h'=>h' A hA) (fun _ x=>x)) h)
theorem Zij{step:σ->Cq (σ⊕ρ)}{p:ρ->Prop}(I:σ->Prop)(m:σ->Nat)(h:∀ s,I s->(step s).wp (Out (fun s'=>I s'/\m s'<m s) p)):∀ s,I s->(loop step s).wp p:=by
 have key:∀ n s,m s=n->I s->(loop step s).wp p:=by
  intro n
  induction n using Nat.strongRecOn with
  | _ n ih=>
   intro s hn hI
   exact Zm ((step s).mono (Out.mono (fun s' ⟨h1,h2⟩=>ih (m s') (by omega) s' rfl h1) (fun _ x=>x)) (h s hI))
 exact fun s=>key _ s rfl
theorem Ret.ZG{c:Cq α}{a:α}(n:Nat)(h:c.ev n=some a):c.Ret a:=c.sound n a h _ rfl
theorem wp.pos{p:Prop}[Decidable p]{A B:Cq α}{q:α->Prop}(h:(if p then A else B).wp q)(hp:p):A.wp q:=by rwa [if_pos hp] at h
theorem wp.neg{p:Prop}[Decidable p]{A B:Cq α}{q:α->Prop}(h:(if p then A else B).wp q)(hp:¬ p):B.wp q:=by rwa [if_neg hp] at h
theorem wp.yes{p:Prop}[Decidable p]{A B:Cq α}{q:α->Prop}(hp:p)(h:A.wp q):(if p then A else B).wp q:=by rwa [if_pos hp]
theorem wp.no{p:Prop}[Decidable p]{A B:Cq α}{q:α->Prop}(hp:¬ p)(h:B.wp q):(if p then A else B).wp q:=by rwa [if_neg hp]
end Cq
section
variable {P:Program}{N:Nat}{Q:Post}{fr:Fr}{S:Asrt}
def LoopIn(P:Program)(c:Code)(Q:Post)(a:Act)(w:World):Prop:=
 ∀ (b:Frame) (k:List Item) (cs:List Frame),∃ e a' w',Q e a' w'/\Arrives P (lone (b.at a (.code c::.inLoop c::k)) cs w) b k cs e a' w'
theorem LoopIn.fold{c:Code}{a:Act}{w:World}(h:c.wp P (Exit.then (LoopIn P c Q) Q) a w):LoopIn P c Q a w:=by
 intro b k cs
 obtain⟨e,a₁,w₁,hq,harr⟩:=h b (.inLoop c::k) cs
 cases e with
 | normal=>
  obtain⟨e₂,a₂,w₂,hq₂,harr₂⟩:=hq b k cs
  exact⟨e₂,a₂,w₂,hq₂,.of_steps (Steps.trans harr (.one step_inLoop)) harr₂⟩
 | exit id=>exact⟨_,a₁,w₁,hq,.pass (x:=.inLoop c) rfl (fun _ _=>.inl (by simp)) harr⟩
 | goto l=>exact⟨_,a₁,w₁,hq,.pass (x:=.inLoop c) rfl (fun _ _=>.inl (by simp)) harr⟩
 | ret=>exact⟨_,a₁,w₁,hq,.pass (x:=.inLoop c) rfl (fun _ _=>.inl (by simp)) harr⟩
 | panic ch=>exact⟨_,a₁,w₁,hq,.pass (x:=.inLoop c) rfl (fun _ _=>.inl (by simp)) harr⟩
 | outgrown=>exact⟨_,a₁,w₁,hq,.pass (x:=.inLoop c) rfl (fun _ _=>.inl (by simp)) harr⟩
theorem LoopIn.wp{c:Code}{a:Act}{w:World}(h:LoopIn P c Q a w):(Code.loop c).wp P Q a w:=by
 intro b k cs
 obtain⟨e,a',w',hq,harr⟩:=h b k cs
 exact⟨e,a',w',hq,.of_steps (.one step_loop) harr⟩
def BackR{X σ:Type}(N:Nat)(F:X->Fr)(H:X->Prop)(I:X->Asrt)(π:X->σ)(A:σ->Prop):Act->World->Prop:=fun a w=>∃ x',H x'/\A (π x')/\Rel N (F x') a/\I x' w
theorem WC.loopR{c:Code}{X σ ρ:Type}{step:σ->Cq (σ⊕ρ)}{Φ:ρ->Prop}(π:X->σ)(F:X->Fr)(H:X->Prop)(I:X->Asrt)(x₀:X)(hl:(Cq.loop step (π x₀)).wp Φ)(hF:Fr.sub (F x₀) fr)(hH:H x₀)(hI:∀ w,S w->I x₀ w)
  (round:∀ (A:σ->Prop) x,H x->(step (π x)).wp (Out A Φ)->WC P N c (Exit.then (BackR N F H I π A) Q) (F x) (I x)):WC P N (.loop c) Q fr S:=by
 have key:=hl (fun s=>∀ x,π x=s->H x->∀ a w,Rel N (F x) a->I x w->LoopIn P c Q a w) (fun s hs x hx hH a w ha hI=>by
  subst hx
  refine LoopIn.fold (Code.wp_mono (fun e a' w' hq=>?_) (round _ x hH hs a w ha hI))
  cases e <;> first|exact hq|skip
  obtain⟨x',h1,h2,h3,h4⟩:=hq
  exact h2 x' rfl h1 a' w' h3 h4)
 exact fun a w ha hs=>(key x₀ rfl hH a w (ha.weaken hF) (hI w hs)).wp
theorem WE.backR{X σ:Type}{F:X->Fr}{H:X->Prop}{I:X->Asrt}{π:X->σ}{A:σ->Prop}(x':X)(hA:A (π x'))(hH:H x')(hF:Fr.sub (F x') fr)(hI:∀ w,S w->I x' w):WE N (Exit.then (BackR N F H I π A) Q) .normal fr S:=
 fun _ w ha hs=>⟨x',hH,hA,ha.weaken hF,hI w hs⟩
def MidH{X:Type}(N:Nat)(F:X->Fr)(H:X->Prop)(I:X->Asrt):Act->World->Prop:=fun a w=>∃ x,H x/\Rel N (F x) a/\I x w
theorem WC.seqH{X:Type}{x y:Code}(F:X->Fr)(H:X->Prop)(I:X->Asrt)(h1:WC P N x (Exit.then (MidH N F H I) Q) fr S)(h2:∀ x,H x->WC P N y Q (F x) (I x)):WC P N (.seq x y) Q fr S:=
 fun a w ha hs=>wp_seq (Code.wp_mono (fun e a' w' hq=>by
  cases e <;> first|exact hq|(obtain⟨x',q0,q1,q2⟩:=hq; exact h2 x' q0 a' w' q1 q2)) (h1 a w ha hs))
theorem WE.midH{X:Type}{F:X->Fr}{H:X->Prop}{I:X->Asrt}(x:X)(hH:H x)(hF:Fr.sub (F x) fr)(hI:∀ w,S w->I x w):WE N (Exit.then (MidH N F H I) Q) .normal fr S:=fun _ w ha hs=>⟨x,hH,ha.weaken hF,hI w hs⟩
def EndH{X:Type}(N:Nat)(F:X->Fr)(H:X->Prop)(I:X->Asrt)(Q:Post):Post:=fun e a w=>match e with
 | .normal=>∃ x,H x/\Rel N (F x) a/\I x w
 | e=>Q e a w
theorem WC.meetH{X:Type}{x:Code}(F:X->Fr)(H:X->Prop)(I:X->Asrt)(h1:WC P N x (EndH N F H I Q) fr S)(h2:∀ x,H x->WE N Q .normal (F x) (I x)):WC P N x Q fr S:=
 fun a w ha hs=>Code.wp_mono (fun e a' w' hq=>by
  cases e <;> first|exact hq|(obtain⟨x',q0,q1,q2⟩:=hq; exact h2 x' q0 a' w' q1 q2)) (h1 a w ha hs)
theorem WE.endH{X:Type}{F:X->Fr}{H:X->Prop}{I:X->Asrt}(x:X)(hH:H x)(hF:Fr.sub (F x) fr)(hI:∀ w,S w->I x w):WE N (EndH N F H I Q) .normal fr S:=fun _ w ha hs=>⟨x,hH,ha.weaken hF,hI w hs⟩
theorem WE.endRet{X:Type}{F:X->Fr}{H:X->Prop}{I:X->Asrt}(h:WE N Q .ret fr S):WE N (EndH N F H I Q) .ret fr S:=h
end
end Go.EL
namespace Go.EL
open Go.IntKind (i8 i16 i32 i64 u8 u16 u32 u64)
open Go Go.RowKit Go.Proofs
structure Rp (α:Type) where
 size:Nat
 rep:Mem->List Value->α->Prop
 len:∀ {G cs x},rep G cs x->cs.length=size
 mono:∀ {G G' cs x},Mem.le G G'->rep G cs x->rep G' cs x
 one:∀ {G cs x},rep G cs x->∀ u ∈ cs,u.oneCell'=true
def Rp.int(k:IntKind):Rp Int:=⟨1,fun _ cs x=>cs=[.int k x],fun h=>by rw[h]; rfl,fun _ h=>h,fun h u hu=>by rw[h] at hu; simp at hu; subst hu; rfl⟩
def Rp.bool:Rp Bool:=⟨1,fun _ cs x=>cs=[.bool x],fun h=>by rw[h]; rfl,fun _ h=>h,fun h u hu=>by rw[h] at hu; simp at hu; subst hu; rfl⟩
def Rp.str:Rp ByteArray:=⟨1,fun _ cs x=>cs=[.string x],fun h=>by rw[h]; rfl,fun _ h=>h,fun h u hu=>by rw[h] at hu; simp at hu; subst hu; rfl⟩
def vecG{α:Type}(mk:α->Value)(n:Nat)(f:Fin n->α):List Value:=List.ofFn fun i=>mk (f i)
abbrev vecL(k:IntKind)(n:Nat)(f:Fin n->Int):List Value:=vecG (Value.int k) n f
section
variable {α:Type}(mk:α->Value) (n:Nat) (f:Fin n->α)
theorem ZdK:(vecG mk n f).length=n:=by simp[vecG]
theorem ZcK{i:Nat}(h:i<n):(vecG mk n f)[i]? = some (mk (f ⟨i,h⟩)):=by simp[vecG,h]
theorem ZeK(hm:∀ x,(mk x).oneCell'=true):∀ u ∈ vecG mk n f,u.oneCell'=true:=by
 intro u hu
 simp only[vecG,List.mem_ofFn] at hu
 obtain⟨i,rfl⟩:=hu
 exact hm _
end
def setF{α:Type}{n:Nat}(f:Fin n->α)(i:Nat)(x:α):Fin n->α:=fun j=>if j.val=i then x else f j
def getF{α:Type}[Inhabited α]{n:Nat}(f:Fin n->α)(i:Int):α:=if h:i.toNat<n then f ⟨i.toNat,h⟩ else default
theorem Zfs{α:Type}[Inhabited α]{n:Nat}(f:Fin n->α){i:Int}(h:i.toNat<n):getF f i=f ⟨i.toNat,h⟩:=by simp[getF,h]
theorem Zph{α:Type}(mk:α->Value)(n:Nat)(f:Fin n->α)(i:Nat)(x:α):(vecG mk n f).set i (mk x)=vecG mk n (setF f i x):=by
 apply List.ext_getElem
 .simp[vecG]
 intro j h1 h2
 simp only[vecG,List.getElem_set,List.getElem_ofFn,setF]
 by_cases e:i=j
 .subst e; simp
 rw[if_neg e,if_neg (fun e'=>e e'.symm)]
theorem ZhD{α:Type}[Inhabited α](mk:α->Value)(n:Nat)(f:Fin n->α){i:Int}(h:0<=i/\i<(n:Int)):(vecG mk n f).toArray[i.toNat]? = some (mk (getF f i)):=by
 have hi:i.toNat<n:=by omega
 rw[Zfs f hi,List.getElem?_toArray,ZcK mk n f hi]
theorem Za5{α:Type}(mk:α->Value)(n:Nat)(f:Fin n->α)(i:Nat)(x:α):(vecG mk n f).toArray.setIfInBounds i (mk x)=(vecG mk n (setF f i x)).toArray:=by
 rw[List.setIfInBounds_toArray,Zph]
def Rp.vecG{α:Type}(mk:α->Value)(hm:∀ x,(mk x).oneCell'=true)(n:Nat):Rp (Fin n->α):=⟨n,fun _ cs f=>cs=EL.vecG mk n f,fun h=>by rw[h]; exact ZdK _ _ _,fun _ h=>h,fun h=>by rw[h]; exact ZeK _ _ _ hm⟩
abbrev Rp.vec(k:IntKind)(n:Nat):Rp (Fin n->Int):=Rp.vecG (Value.int k) (fun _=>rfl) n
def Rp.pair{α β:Type}(a:Rp α)(b:Rp β):Rp (α×β) where
 size:=a.size+b.size
 rep G cs x:=∃ c d,cs=c++d/\a.rep G c x.1/\b.rep G d x.2
 len:=by rintro G cs x ⟨c,d,rfl,h1,h2⟩; rw[List.length_append,a.len h1,b.len h2]
 mono:=by rintro G G' cs x hle ⟨c,d,rfl,h1,h2⟩; exact⟨c,d,rfl,a.mono hle h1,b.mono hle h2⟩
 one:=by
  rintro G cs x ⟨c,d,rfl,h1,h2⟩ u hu
  rcases List.mem_append.1 hu with hu|hu
  .exact a.one h1 u hu
  exact b.one h2 u hu
def Rp.via{α β:Type}(a:Rp α)(f:β->α):Rp β:=⟨a.size,fun G cs x=>a.rep G cs (f x),a.len,a.mono,a.one⟩
def RepL{α:Type}(r:Rp α)(G:Mem):List Value->List α->Prop
 | cs,[]=>cs=[]
 | cs,x::l=>∃ c d,cs=c++d/\r.rep G c x/\RepL r G d l
namespace RepL
open Go.IntKind (i8 i16 i32 i64 u8 u16 u32 u64)
variable {α:Type}{r:Rp α}{G G':Mem}
theorem len:∀ {l:List α}{cs:List Value},RepL r G cs l->cs.length=l.length*r.size
 | [],cs,h=>by simp only[RepL] at h; simp[h]
 | x::l,cs,⟨c,d,e,h1,h2⟩=>by
  have:=len h2
  subst e
  simp only[List.length_append,r.len h1,this,List.length_cons,Nat.add_mul]
  omega
theorem mono(hle:Mem.le G G'):∀ {l:List α}{cs:List Value},RepL r G cs l->RepL r G' cs l
 | [],_,h=>h
 | _::_,_,⟨c,d,e,h1,h2⟩=>⟨c,d,e,r.mono hle h1,mono hle h2⟩
theorem one:∀ {l:List α}{cs:List Value},RepL r G cs l->∀ u ∈ cs,u.oneCell'=true
 | [],cs,h=>by simp only[RepL] at h; simp[h]
 | _::_,_,⟨c,d,e,h1,h2⟩=>by
  subst e
  intro u hu
  rcases List.mem_append.1 hu with hu|hu
  .exact r.one h1 u hu
  exact one h2 u hu
theorem single{x:α}{c:List Value}(h:r.rep G c x):RepL r G c [x]:=⟨c,[],by simp,h,rfl⟩
theorem append:∀ {l m:List α}{cs ds:List Value},RepL r G cs l->RepL r G ds m->RepL r G (cs++ds) (l++m)
 | [],m,cs,ds,h,k=>by simp only[RepL] at h; subst h; exact k
 | _::_,m,_,ds,⟨c,d,e,h1,h2⟩,k=>by subst e; exact⟨c,d++ds,by simp,h1,append h2 k⟩
theorem get:∀ {l:List α}{cs:List Value},RepL r G cs l->∀ {i:Nat}{x:α},l[i]? = some x->∃ c,r.rep G c x/\∀ j u,c[j]? = some u->cs[i*r.size+j]? = some u
 | [],_,_,i,x,hx=>by simp at hx
 | y::l,_,⟨c,d,e,h1,h2⟩,0,x,hx=>by
  simp only[List.getElem?_cons_zero,Option.some.injEq] at hx
  subst hx e
  refine⟨c,h1,fun j u hu=>?_⟩
  rw[Nat.zero_mul,Nat.zero_add,List.getElem?_append_left (List.getElem?_eq_some_iff.1 hu).1]
  exact hu
 | y::l,_,⟨c,d,e,h1,h2⟩,i+1,x,hx=>by
  simp only[List.getElem?_cons_succ] at hx
  subst e
  obtain⟨c',h3,h4⟩:=get h2 hx
  refine⟨c',h3,fun j u hu=>?_⟩
  rw[List.getElem?_append_right (by rw[r.len h1,Nat.add_mul]; omega)]
  rw[show (i+1)*r.size+j-c.length=i*r.size+j by rw[r.len h1,Nat.add_mul]; omega]
  exact h4 j u hu
theorem split:∀ {l m:List α}{cs:List Value},RepL r G cs (l++m)->∃ c d,cs=c++d/\RepL r G c l/\RepL r G d m
 | [],m,cs,h=>⟨[],cs,rfl,rfl,h⟩
 | x::l,m,_,⟨c,d,e,h1,h2⟩=>by
  obtain⟨c',d',e',h3,h4⟩:=split h2
  exact⟨c++c',d',by rw[e,e',List.append_assoc],⟨c,c',rfl,h1,h3⟩,h4⟩
end RepL
def pb:Option Addr->Nat
 | some a=>a.block
 | none=>0
def po:Option Addr->Nat
 | some a=>a.off
 | none=>0
def SlR{α:Type}(r:Rp α)(G:Mem)(v:Value)(l:List α):Prop:=
 ∃ p cap cs,v = .slice p l.length cap/\(l.length<=cap/\cap<=9223372036854775807)/\(∀ a,p=some a->0<cap->a.spot=none)/\(0<l.length->p.isSome=true)/\RepL r G cs l/\∀ j u,cs[j]? = some u->G (pb p) (po p+j)=some u
theorem SlR.mono{α:Type}{r:Rp α}{G G':Mem}{v:Value}{l:List α}(h:SlR r G v l)(hle:Mem.le G G'):SlR r G' v l:=by
 obtain⟨p,cap,cs,h1,h5,h2,h3,h4,h6⟩:=h
 exact⟨p,cap,cs,h1,h5,h2,h3,h4.mono hle,fun j u hu=>hle _ _ _ (h6 j u hu)⟩
theorem SlR.nil{α:Type}(r:Rp α)(G:Mem):SlR r G (.slice none 0 0) []:=⟨none,0,[],rfl,by simp,fun _ h=>(by cases h),fun h=>(by simp at h),rfl,fun j u h=>(by simp at h)⟩
theorem SlR.one{α:Type}{r:Rp α}{G:Mem}{v:Value}{l:List α}(h:SlR r G v l):v.oneCell'=true:=by
 obtain⟨p,cap,cs,h1,_⟩:=h
 rw[h1]; rfl
def Rp.sl{α:Type}(r:Rp α):Rp (List α):=⟨1,fun G cs l=>∃ v,cs=[v]/\SlR r G v l,fun ⟨v,h,_⟩=>by rw[h]; rfl,fun hle ⟨v,h,k⟩=>⟨v,h,k.mono hle⟩,fun ⟨v,h,k⟩ u hu=>by rw[h] at hu; simp at hu; subst hu; exact k.one⟩
section
variable {P:Program}{N:Nat}{Q:Post}{fr:Fr}{S:Asrt}{ops:Array Oper}{l:List Oper}{dst:Option Nat}{ty:TypeId}{pos:String}{af:Array Edge}{g:Option (Nat×Bool)}
variable {w0:Bs}{G0 G:Mem}{L:Lo}{α:Type}{r:Rp α}
theorem Y0.lenR{x:Operand}{t e:TypeId}{v:Value}{xs:List α}(ht:P.underlying t=some (.slice e))(h:SlR r G v xs)(hx:fr.ev x=some v):Y0 P N ⟨dst,.call ⟨.builtin .len,#[x],#[t]⟩,ty,pos,af,g⟩ fr S (.int .i64 (xs.length:Int)):=by
 obtain⟨p,cap,cs,h1,_⟩:=h
 subst h1
 exact Y0.lenSl ht hx
def AtK(r:Rp α)(G:Mem)(K:Nat->Value->Prop)(o:Nat)(x:α):Prop:=∃ c,r.rep G c x/\∀ j u,c[j]? = some u->K (o+j) u
abbrev At(r:Rp α)(G:Mem)(b o:Nat)(x:α):Prop:=AtK r G (fun k u=>G b k=some u) o x
theorem At.mono{G':Mem}{b o:Nat}{x:α}(h:At r G b o x)(hle:Mem.le G G'):At r G' b o x:=by
 obtain⟨c,h1,h2⟩:=h
 exact⟨c,r.mono hle h1,fun j u hu=>hle _ _ _ (h2 j u hu)⟩
theorem AtK.mono{G':Mem}{K:Nat->Value->Prop}{o:Nat}{x:α}(h:AtK r G K o x)(hle:Mem.le G G'):AtK r G' K o x:=by
 obtain⟨c,h1,h2⟩:=h
 exact⟨c,r.mono hle h1,h2⟩
theorem SlR.at{p:Option Addr}{n cap:Nat}{xs:List α}(h:SlR r G (.slice p n cap) xs){i:Int}{x:α}(hi:0<=i/\xs[i.toNat]? = some x):At r G (pb p) (po p+i.toNat*r.size) x:=by
 obtain⟨p',cap',cs,h1,_,_,h3,h4,h5⟩:=h
 cases h1
 obtain⟨c,hc1,hc2⟩:=h4.get hi.2
 exact⟨c,hc1,fun j u hu=>by rw[Nat.add_assoc]; exact h5 _ _ (hc2 j u hu)⟩
theorem Y0.idxR{t e:TypeId}{x y:Operand}{n cap sz:Nat}{p:Option Addr}{k:IntKind}{i:Int}{xs:List α}{z:α}(ht:P.underlying t=some (.slice e))(hsz:(P.info? e).map (·.size)=some sz)(h:SlR r G (.slice p n cap) xs)
  (hx:fr.ev x=some (.slice p n cap)) (hy:fr.ev y=some (.int k i)) (hi:0<=i/\xs[i.toNat]? = some z):Y0 P N ⟨dst,.indexAddr t x y,ty,pos,af,g⟩ fr S (.pointer (some ⟨pb p,po p+i.toNat*sz,none⟩)):=by
 obtain⟨p',cap',cs,h1,hcap,h2,h3,h4,h5⟩:=h
 cases h1
 have hlt:=(List.getElem?_eq_some_iff.1 hi.2).1
 have hp:=h3 (by omega)
 cases p with
 | none=>cases hp
 | some a=>
  obtain⟨ab,ao,ap⟩:=a
  have:=h2 _ rfl (by omega)
  dsimp only at this
  subst this
  exact Y0.idxSl ht hsz hx hy (by omega)
variable {K:Nat->Value->Prop}
theorem AtK.fst{β:Type}{q:Rp β}{o:Nat}{x:α×β}(h:AtK (Rp.pair r q) G K o x):AtK r G K o x.1:=by
 obtain⟨c,⟨c1,c2,rfl,h1,h2⟩,h3⟩:=h
 exact⟨c1,h1,fun j u hu=>h3 j u (by rw[List.getElem?_append_left (List.getElem?_eq_some_iff.1 hu).1]; exact hu)⟩
theorem AtK.snd{β:Type}{q:Rp β}{o:Nat}{x:α×β}(h:AtK (Rp.pair r q) G K o x):AtK q G K (o+r.size) x.2:=by
 obtain⟨c,⟨c1,c2,rfl,h1,h2⟩,h3⟩:=h
 refine⟨c2,h2,fun j u hu=>?_⟩
 have:=h3 (r.size+j) u (by rw[List.getElem?_append_right (by rw[r.len h1]; omega),r.len h1,Nat.add_sub_cancel_left]; exact hu)
 rwa [<- Nat.add_assoc] at this
theorem AtK.via{β:Type}{f:β->α}{o:Nat}{x:β}(h:AtK (Rp.via r f) G K o x):AtK r G K o (f x):=h
theorem AtK.int{k:IntKind}{o:Nat}{x:Int}(h:AtK (Rp.int k) G K o x):K o (.int k x):=by
 obtain⟨c,h1,h2⟩:=h
 have h1:c=[.int k x]:=h1
 subst h1
 exact h2 0 _ rfl
theorem AtK.bool{o:Nat}{x:Bool}(h:AtK Rp.bool G K o x):K o (.bool x):=by
 obtain⟨c,h1,h2⟩:=h
 have h1:c=[.bool x]:=h1
 subst h1
 exact h2 0 _ rfl
theorem AtK.str{o:Nat}{x:ByteArray}(h:AtK Rp.str G K o x):K o (.string x):=by
 obtain⟨c,h1,h2⟩:=h
 have h1:c=[.string x]:=h1
 subst h1
 exact h2 0 _ rfl
theorem AtK.sl{o:Nat}{x:List α}(h:AtK (Rp.sl r) G K o x):∃ p cap,K o (.slice p x.length cap)/\SlR r G (.slice p x.length cap) x:=by
 obtain⟨c,⟨v,h1,h3⟩,h2⟩:=h
 subst h1
 have h4:=h2 0 _ rfl
 obtain⟨p,cap,cs,h5,h6⟩:=h3
 subst h5
 exact⟨p,cap,h4,p,cap,cs,rfl,h6⟩
theorem AtK.vec{α:Type}{mk:α->Value}{hm:∀ x,(mk x).oneCell'=true}{n o:Nat}{x:Fin n->α}(h:AtK (Rp.vecG mk hm n) G K o x):∀ j u,(EL.vecG mk n x).toArray[j]? = some u->K (o+j) u:=by
 obtain⟨c,h1,h2⟩:=h
 have h1:c=EL.vecG mk n x:=h1
 subst h1
 intro j u hu
 exact h2 j u (by simpa using hu)
theorem AtK.vecAt{α:Type}[Inhabited α]{mk:α->Value}{hm:∀ x,(mk x).oneCell'=true}{n o:Nat}{x:Fin n->α}(h:AtK (Rp.vecG mk hm n) G K o x){i:Int}(hi:0<=i/\i<(n:Int)):K (o+i.toNat) (mk (getF x i)):=
 h.vec _ _ (ZhD mk n x hi)
end
end Go.EL
namespace Go.EL
open Go.IntKind (i8 i16 i32 i64 u8 u16 u32 u64)
open Go Go.RowKit Go.Proofs
def Tok(size:Nat)(e:TypeId)(v:Value)(n:Nat):Option Ow->Prop
 | none=>∃ p,v = .slice p n n
 | some x=>∃ cap c,v = .slice (some ⟨x.b,0,none⟩) n cap/\x.o = .cells c e (0,0)/\x.m=n*size/\c.size=cap*size/\cap<=maxLen/\n<=cap
def ElT(P:Program)(e:TypeId)(z:Value)(size bytes:Nat):Prop:=(P.info? e).map (fun i=>(i.zero,i.size,i.bytes))=some (some z,size,bytes)
theorem ElT.parts{P:Program}{e:TypeId}{z:Value}{size bytes:Nat}(h:ElT P e z size bytes):∃ i,P.info? e=some i/\i.zero=some z/\i.size=size/\i.bytes=bytes:=by
 unfold ElT at h
 cases hi:P.info? e with
 | none=>rw[hi] at h; cases h
 | some i=>rw[hi] at h; simp at h; exact⟨i,rfl,h.1,h.2.1,h.2.2⟩
def small:Nat:=1000000000
theorem Lo.Zml{L:Lo}{i:Nat}{x y:Option Ow}:Lo.sub ((i,x)::L) ((i,x)::(i,y)::L):=by
 intro k z hk
 rw[Lo.Zi] at hk ⊢
 split at hk
 .rename_i e; rw[if_pos e]; exact hk
 rename_i e; rw[if_neg e,Lo.Zi,if_neg e]; exact hk
section
variable {P:Program}{N:Nat}{Q:Post}{fr:Fr}{S:Asrt}{ops:Array Oper}{l:List Oper}{dst:Option Nat}{ty:TypeId}{pos:String}{af:Array Edge}{g:Option (Nat×Bool)}
variable {w0:Bs}{G0 G:Mem}{L:Lo}{α:Type}{r:Rp α}
theorem SlR.form{v:Value}{xs:List α}(h:SlR r G v xs):∃ p cap,v = .slice p xs.length cap:=by
 obtain⟨p,cap,cs,h1,_⟩:=h
 exact⟨p,cap,h1⟩
theorem Mem.Zmh{b:Nat}{cs:List Value}{rest:Array Value}{j:Nat}{u:Value}{n:Nat}(hn:cs.length=n)(h:cs[j]? = some u):Mem.row G b (cs.toArray++rest) 0 n b (0+j)=some u:=by
 have hj:=(List.getElem?_eq_some_iff.1 h).1
 rw[Nat.zero_add,Mem.ZeB (Nat.zero_le _) (by omega),Array.getElem?_append_left (by simpa using hj)]
 simpa using h
theorem Zll{t e:TypeId}{z:Value}{bytes m c:Nat}{xs ys:List α}{v:Value}{p:Option Addr}{id:Nat}{tk:Option Ow}(ty:TypeId)(ht:P.underlying t=some (.slice e))(hE:ElT P e z r.size bytes)(hzs:z.cells.size=r.size)(hby:bytes<=100000)
  (hv:SlR r G v xs) (hid:L.get id=tk) (h0:w0.L.get id=none) (htk:Tok r.size e v xs.length tk) (hx:SlR r G (.slice p m c) ys) (hsm:(xs++ys).length<=small)
  (w:World) (hs:St w0 G0 G L w) :
  ∃ v' tk' G' w',(Builtin.append_ #[t,t] ty #[v,.slice p m c]).run P w = .ok v' w'/\Mem.le G G'/\SlR r G' v' (xs++ys)/\Tok r.size e v' (xs++ys).length tk'/\St w0 G0 G' ((id,tk')::L) w':=by
 obtain⟨i,hi,hz,hsz,hbt⟩:=hE.parts
 obtain⟨px,capx,ds,hx1,hx2,hx3,hx4,hx5,hx6⟩:=hx
 simp only[Value.slice.injEq] at hx1
 obtain⟨rfl,rfl,rfl⟩:=hx1
 obtain⟨pv,cap,cs,hv1,hv2,hv3,hv4,hv5,hv6⟩:=hv
 subst hv1
 have hlx:=hx5.len
 have hlv:=hv5.len
 simp only[List.length_append,small] at hsm
 have hmaxL:xs.length+ys.length<=maxLen:=by simp only[maxLen]; omega
 have hall:RepL r G (cs++ds) (xs++ys):=hv5.append hx5
 have hb1:(xs.length+ys.length)*bytes<=140737488355328:=by
  have:(xs.length+ys.length)*bytes<=1000000000*100000:=Nat.mul_le_mul (by omega) hby
  omega
 by_cases hm:ys.length=0
 .-- nothing is appended
  have hy:ys=[]:=List.eq_nil_of_length_eq_zero hm
  subst hy
  simp only[List.length_nil,List.append_nil] at *
  have hnc:tk=none->xs.length=cap:=fun e=>by subst e; obtain⟨q,hq⟩:=htk; cases hq; rfl
  have hle:xs.length<=cap:=by
   cases tk with
   | none=>exact Nat.le_of_eq (hnc rfl)
   | some x=>obtain⟨cap',c',h1,_,_,_,_,h6⟩:=htk; cases h1; exact h6
  refine⟨_,tk,G,w,?_,Mem.le_refl G,⟨pv,cap,cs,rfl,hv2,hv3,hv4,hv5,hv6⟩,htk,hs.weaken (Lo.Zd hid (Lo.Zb3 _))⟩
  cases hpv:pv with
  | none=>
   have:¬ 0<xs.length:=fun h=>by have:=hv4 h; rw[hpv] at this; cases this
   cases p with
   | none=>
    by_cases hc0:xs.length<=cap
    .simp[Builtin.append_,run_underlying ht,sizeOf,typeInfo,hi,Builtin.lenOf,Builtin.firstCells,show xs.length=0 by omega]
    omega
   | some a=>simp[Builtin.append_,run_underlying ht,sizeOf,typeInfo,hi,Builtin.lenOf,Builtin.firstCells,loadCells,loadCellsFrom,show xs.length=0 by omega]
  | some a=>
   cases p with
   | none=>simp[Builtin.append_,run_underlying ht,sizeOf,typeInfo,hi,Builtin.lenOf,Builtin.firstCells,hle,storeCells]
   | some a=>simp[Builtin.append_,run_underlying ht,sizeOf,typeInfo,hi,Builtin.lenOf,Builtin.firstCells,hle,storeCells,loadCells,loadCellsFrom]
 have hp:=hx4 (by omega)
 obtain⟨pa,hpa⟩:=Option.isSome_iff_exists.1 hp
 subst hpa
 obtain⟨sb,so,ss⟩:=pa
 have hss:=hx3 _ rfl (by omega)
 dsimp only at hss
 subst hss
 have hx6:∀ j u,ds[j]? = some u->G sb (so+j)=some u:=hx6
 have hnews:∀ j u,ds[j]? = some u->w.cell? ((⟨sb,so,none⟩:Addr).add j)=some u:=fun j u hu=>by rw[Z6]; exact hs.imm _ _ _ (hx6 j u hu)
 have hone:=hx5.one
 have hlx':ds.length=ys.length*i.size:=by rw[hsz]; exact hlx
 have hlv':cs.length=xs.length*i.size:=by rw[hsz]; exact hlv
 have new:∀ (cap':Nat),xs.length+ys.length<=cap'->cap'<=maxLen->∃ tk' G',Mem.le G G'/\SlR r G' (.slice (some ⟨w.heap.size,0,none⟩) (xs.length+ys.length) cap') (xs++ys)/\Tok r.size e (.slice (some ⟨w.heap.size,0,none⟩) (xs.length+ys.length) cap') (xs++ys).length tk'/\
   St w0 G0 G' ((id,tk')::L) (w.drew.alloc (.cells ((cs++ds).toArray++Builtin.zeroCells z.cells (cap'-(xs.length+ys.length))) e)):=by
  intro cap' h1 h2
  have hsd:St w0 G0 G L w.drew:=hs.drew
  have h3:=hsd.push id (.cells ((cs++ds).toArray++Builtin.zeroCells z.cells (cap'-(xs.length+ys.length))) e)
  obtain⟨h4,h5⟩:=h3.know (i:=id) (n:=(xs.length+ys.length)*r.size) (by rw[Lo.Zi,if_pos rfl]) h0 (Nat.zero_le _)
  have hlen:(cs++ds).length=(xs.length+ys.length)*r.size:=by rw[List.length_append,hlv,hlx,Nat.add_mul]
  refine⟨_,_,h5,⟨_,_,cs++ds,by rw[List.length_append],by rw[List.length_append]; simp only[maxLen] at h2; omega,fun a ha _=>by cases ha; rfl,fun _=>rfl,hall.mono h5,fun j u hu=>Mem.Zmh hlen hu⟩,?_,h4.weaken Lo.Zml⟩
  refine⟨cap',_,by rw[List.length_append]; rfl,rfl,by rw[List.length_append],?_,h2,by rw[List.length_append]; exact h1⟩
  simp only[Array.size_append,List.size_toArray,hlen,size_zeroCells,hzs,<- Nat.add_mul]
  congr 1; omega
 have grow:∀ (hg:cap<xs.length+ys.length),∃ v' tk' G' w',(Builtin.append_ #[t,t] ty #[.slice pv xs.length cap,.slice (some ⟨sb,so,none⟩) ys.length c]).run P w = .ok v' w'/\Mem.le G G'/\SlR r G' v' (xs++ys)/\Tok r.size e v' (xs++ys).length tk'/\St w0 G0 G' ((id,tk')::L) w':=by
  intro hg
  have hcap:=grownCap_ge w (xs.length+ys.length) cap e
  have hmax:=grownCap_le_maxLen w (xs.length+ys.length) cap e hmaxL
  obtain⟨tk',G',k1,k2,k3,k4⟩:=new _ hcap hmax
  refine⟨_,tk',G',_,?_,k1,k2,k3,k4⟩
  have hsrc:=Src.ofSlice (P:=P) w (size:=i.size) ht ⟨sb,so,none⟩ ys.length c ds hlx' hnews hone
  have hold:(Builtin.firstCells i.size xs.length (.slice pv xs.length cap)).run P w.drew = .ok cs.toArray w.drew:=by
   cases hpv:pv with
   | none=>
    have:¬ 0<xs.length:=fun h=>by have:=hv4 h; rw[hpv] at this; cases this
    have hc0:cs=[]:=List.eq_nil_of_length_eq_zero (by rw[hlv,show xs.length=0 by omega,Nat.zero_mul])
    rw[hc0]
    exact run_firstCells_none _ _ _ _ _
   | some a=>
    rcases Nat.eq_zero_or_pos xs.length with hx0|hx0
    .subst hpv
     have hc0:cs=[]:=List.eq_nil_of_length_eq_zero (by rw[hlv,hx0,Nat.zero_mul])
     exact run_firstCells_some _ _ _ _ _ _ _ hlv' (fun j u hu=>by rw[hc0] at hu; simp at hu)
    have ha:=hv3 a hpv (by omega)
    obtain⟨ab,ao,ap⟩:=a
    dsimp only at ha
    subst ha
    subst hpv
    exact run_firstCells_some _ _ _ _ _ _ _ hlv' (fun j u hu=>by rw[Z6]; exact hs.drew.imm _ _ _ (hv6 j u hu))
  have:=run_append_grow_src (P:=P) w t t ty e i z ht hi hz pv xs.length cap cs hold _ ys.length ds hsrc hg (by omega) (growslice_fits hg (by rw[hbt]; exact hb1))
  exact this
 cases tk with
 | none=>
  obtain⟨q,hq⟩:=htk
  cases hq
  exact grow (by omega)
 | some x=>
  obtain⟨cap',c',h1,h2,h3,h4,h5,h6⟩:=htk
  cases h1
  by_cases hroom:xs.length+ys.length<=cap
  .obtain⟨xb,xo,xm⟩:=x
   dsimp only at h2 h3
   subst h2 h3
   have hblk:=(hs.loc id _ hid).1
   dsimp only at hblk
   have hfit:xs.length*i.size+ds.length<=c'.size:=by rw[hlx',h4,hsz,<- Nat.add_mul]; exact Nat.mul_le_mul_right _ hroom
   have hr:=run_append_room (P:=P) w t ty e i ht hi xb xs.length cap c' hblk ⟨sb,so,none⟩ ys.length c ds hlx' hnews hone hroom hfit
   rw[hsz] at hr hfit
   have hsl:(c'.toList.take (xs.length*r.size)++ds++c'.toList.drop (xs.length*r.size+ds.length)).length=c'.size:=by
    simp only[List.length_append,List.length_take,List.length_drop,Array.length_toList]
    omega
   have hst1:=hs.upd (w':=w.setRow xb (c'.toList.take (xs.length*r.size)++ds++c'.toList.drop (xs.length*r.size+ds.length)).toArray) (o':=.cells (c'.toList.take (xs.length*r.size)++ds++c'.toList.drop (xs.length*r.size+ds.length)).toArray e (0,0)) hid (by simp[World.setRow,Array.getElem?_modify,hblk]) (Nat.le_refl _)
    (fun k v' hk hv'=>by
     have h1:=hs.imm _ _ _ hv'
     dsimp only at h1 hk
     rw[cell_of_row w xb k c' e (0,0) hblk] at h1
     rw[cell_of_row _ xb k _ e (0,0) (by simp[World.setRow,Array.getElem?_modify,hblk]; rfl)]
     rw[List.getElem?_toArray,List.getElem?_append_left (by simp only[List.length_take,Array.length_toList]; omega),List.getElem?_take,if_pos hk]
     simpa using h1)
    (fun k hk=>by
     simp only[World.setRow,Array.getElem?_modify]
     rw[if_neg (fun e=>hk e.symm)]) rfl rfl rfl rfl (by simp[World.setRow])
   obtain⟨h7,h8⟩:=hst1.know (i:=id) (n:=(xs.length+ys.length)*r.size) (by rw[Lo.Zi,if_pos rfl]) h0 (by dsimp only; rw[Nat.add_mul]; omega)
   refine⟨_,_,_,_,hr,h8,⟨_,_,cs++ds,by rw[List.length_append],by rw[List.length_append]; simp only[maxLen] at h5; omega,fun a ha _=>by cases ha; rfl,fun _=>rfl,hall.mono h8,fun j u hu=>?_⟩,?_,h7.weaken Lo.Zml⟩
   .by_cases hj:j<cs.length
    .rw[List.getElem?_append_left hj] at hu
     exact h8 _ _ _ (hv6 j u hu)
    have hj2:j<(cs++ds).length:=(List.getElem?_eq_some_iff.1 hu).1
    rw[List.length_append] at hj2
    rw[List.getElem?_append_right (by omega)] at hu
    show Mem.row G xb _ _ _ xb (0+j)=some u
    rw[Nat.zero_add,Mem.ZeB (by dsimp only; rw[<- hlv]; omega) (by rw[Nat.add_mul,<- hlv,<- hlx]; exact hj2)]
    rw[List.getElem?_toArray,List.append_assoc,List.getElem?_append_right (by simp only[List.length_take,Array.length_toList]; omega),List.getElem?_append_left (by simp only[List.length_take,Array.length_toList]; omega)]
    rw[<- hu]
    congr 1
    simp only[List.length_take,Array.length_toList]
    omega
   exact⟨cap,_,by rw[List.length_append],rfl,by rw[List.length_append],by rw[List.size_toArray,hsl,h4],h5,by rw[List.length_append]; exact hroom⟩
  exact grow (by omega)
theorem WL.appendR{t e:TypeId}{z:Value}{s x:Operand}{bytes m c:Nat}{v:Value}{xs ys:List α}{p:Option Addr}{tk:Option Ow}(id:Nat)(hg:guardOK ops fr ⟨dst,.call ⟨.builtin .append,#[s,x],#[t,t]⟩,ty,pos,af,g⟩ true)(hd:dstOK N dst)
  (ht:P.underlying t=some (.slice e)) (hE:ElT P e z r.size bytes) (hzs:z.cells.size=r.size) (hby:bytes<=100000) (hs:fr.ev s=some v) (hx:fr.ev x=some (.slice p m c)) (hv:SlR r G v xs) (hid:L.get id=tk) (h0:w0.L.get id=none) (htk:Tok r.size e v xs.length tk)
  (hy:SlR r G (.slice p m c) ys) (hsm:(xs++ys).length<=small)
  (k:∀ p' cap' tk' G',Mem.le G G'->SlR r G' (.slice p' (xs++ys).length cap') (xs++ys)->Tok r.size e (.slice p' (xs++ys).length cap') (xs++ys).length tk'->WL P N ops Q l (putFr dst (.slice p' (xs++ys).length cap') fr) (St w0 G0 G' ((id,tk')::L))) :
  WL P N ops Q (⟨dst,.call ⟨.builtin .append,#[s,x],#[t,t]⟩,ty,pos,af,g⟩::l) fr (St w0 G0 G L):=by
 refine WL.yr (Φ:=fun v' w=>∃ tk' G',Mem.le G G'/\SlR r G' v' (xs++ys)/\Tok r.size e v' (xs++ys).length tk'/\St w0 G0 G' ((id,tk')::L) w) hg (fun a w ha hs'=>?_) hd (fun v a w ha ⟨tk',G',h1,h2,h3,h4⟩=>?_)
 .obtain⟨v',tk',G',w',hr,h1,h2,h3,h4⟩:=Zll (w0:=w0) (G0:=G0) ty ht hE hzs hby hv hid h0 htk hy hsm w hs'
  have:(execOp a.eval ⟨dst,.call ⟨.builtin .append,#[s,x],#[t,t]⟩,ty,pos,af,g⟩).run P w = .ok (.value v') w':=by
   simp[execOp,resolve,invoke,builtin,ha.ev hs,ha.ev hx,hr]
  rw[this]
  exact⟨tk',G',h1,h2,h3,h4⟩
 obtain⟨p',cap',rfl⟩:=h2.form
 exact k p' cap' tk' G' h1 h2 h3 a w ha h4
theorem WL.litR{t e:TypeId}{len:Nat}{parts:Array (Nat×Operand)}{vs:Array (Nat×Value)}{cs:List Value}(xs:List α)(hg:guardOK ops fr ⟨dst,.buildSlice t len parts,ty,pos,af,g⟩ true)(hd:dstOK N dst)
  (hps:fr.evs (parts.toList.map (·.2))=some (vs.toList.map (·.2))) (hix:parts.toList.map (·.1)=vs.toList.map (·.1)) (hlen:xs.length=len) (hsm:len<=small)
  (h:∀ w,(Instr.buildSlice t len vs).run P w = .ok (.slice (some ⟨w.heap.size,0,none⟩) len len) (w.alloc (.cells cs.toArray e))) (hrep:RepL r G cs xs) {key:Nat}(hkey:L.get key=none) (h0:w0.L.get key=none)
  (k:∀ p G',Mem.le G G'->SlR r G' (.slice p len len) xs->WL P N ops Q l (putFr dst (.slice p len len) fr) (St w0 G0 G' L)):WL P N ops Q (⟨dst,.buildSlice t len parts,ty,pos,af,g⟩::l) fr (St w0 G0 G L):=by
 refine WL.yr (Φ:=fun v w=>∃ p G',v = .slice p len len/\Mem.le G G'/\SlR r G' (.slice p len len) xs/\St w0 G0 G' L w) hg (fun a w ha hs=>?_) hd (fun v a w ha ⟨p,G',h1,h2,h3,h4⟩=>?_)
 .have h1:=ha.evs _ _ hps
  have h2:(parts.map fun p=>(p.1,a.eval p.2))=vs:=by
   apply Array.ext'
   simp only[Array.toList_map]
   have hl:parts.toList.length=vs.toList.length:=by have:=congrArg List.length hix; simpa using this
   generalize parts.toList=ps at *
   generalize vs.toList=us at *
   clear h hps
   induction ps generalizing us with
   | nil=>cases us <;> simp_all
   | cons p ps ih=>
    cases us with
    | nil=>simp at hl
    | cons q us=>
     simp only[List.map_cons,List.cons.injEq] at hix h1 ⊢
     exact⟨Prod.ext hix.1 h1.1,ih us hix.2 h1.2 (by simpa using hl)⟩
  have h3:(parts.map fun (i,x)=>(i,a.eval x))=vs:=h2
  have:(execOp a.eval ⟨dst,.buildSlice t len parts,ty,pos,af,g⟩).run P w = .ok (.value (.slice (some ⟨w.heap.size,0,none⟩) len len)) (w.alloc (.cells cs.toArray e)):=by
   simp only[execOp,h3]
   simp[h w]
  rw[this]
  have hcs:=hrep.len
  obtain⟨h4,h5⟩:=(hs.push key (.cells cs.toArray e)).know (i:=key) (n:=len*r.size) (by rw[Lo.Zi,if_pos rfl]) h0 (Nat.zero_le _)
  refine⟨_,_,rfl,h5,⟨_,_,cs,by rw[hlen],by rw[hlen]; simp only[small] at hsm; omega,fun a ha _=>by cases ha; rfl,fun _=>rfl,hrep.mono h5,fun j u hu=>?_⟩,h4.weaken (fun i x hx=>?_)⟩
  .have:=Mem.Zmh (G:=G) (b:=w.heap.size) (rest:=#[]) (n:=len*r.size) (by rw[hcs,hlen]) hu
   rw[Array.append_empty] at this
   exact this
  have hne:key≠i:=fun e=>by subst e; rw[hkey] at hx; cases hx
  rw[Lo.Zi,if_neg hne,Lo.Zi,if_neg hne]
  exact hx
 subst h1
 exact k p G' h2 h3 a w ha h4
theorem Tok.full{size:Nat}{e:TypeId}{p:Option Addr}{n:Nat}:Tok size e (.slice p n n) n none:=⟨p,rfl⟩
theorem SlR.take{p:Option Addr}{n cap:Nat}{xs:List α}{lo hi:Nat}(h:SlR r G (.slice p n cap) xs)(h1:lo<=hi)(h2:hi<=xs.length){q:Option Addr}{c:Nat}(hq:q=p.map (fun a=>⟨a.block,a.off+lo*r.size,none⟩)\/(lo=hi/\q=p/\c<=cap))(hc:hi-lo<=c/\c<=9223372036854775807):SlR r G (.slice q (hi-lo) c) ((xs.take hi).drop lo):=by
 obtain⟨p',cap',cs,e1,h3,h4,h5,h6,h7⟩:=h
 cases e1
 have hl:((xs.take hi).drop lo).length=hi-lo:=by simp; omega
 by_cases he:lo=hi
 .subst he
  have:(xs.take lo).drop lo=[]:=by apply List.eq_nil_of_length_eq_zero; omega
  rw[this,Nat.sub_self]
  exact⟨q,c,[],rfl,by simp; omega,fun a ha hc0=>by
   rcases hq with hq|⟨_,hq,hcc⟩
   .cases p with
    | none=>rw[hq] at ha; cases ha
    | some b=>rw[hq] at ha; cases ha; rfl
   rw[hq] at ha; exact h4 a ha (by omega),fun h=>by simp at h,rfl,fun j u h=>by simp at h⟩
 have hq:=hq.resolve_right (fun h=>he h.1)
 have hsp:xs=xs.take lo++((xs.take hi).drop lo++xs.drop hi):=by
  have:xs.take hi=(xs.take hi).take lo++(xs.take hi).drop lo:=(List.take_append_drop lo (xs.take hi)).symm
  rw[List.take_take,Nat.min_eq_left h1] at this
  rw[<- List.append_assoc,<- this,List.take_append_drop]
 rw[hsp] at h6
 obtain⟨c1,d1,e2,k1,k2⟩:=h6.split
 obtain⟨c2,d2,e3,k3,k4⟩:=k2.split
 have hc1:=k1.len
 have hlo:(xs.take lo).length=lo:=by simp; omega
 refine⟨q,c,c2,by rw[hl],by rw[hl]; exact hc,fun a ha _=>?_,fun h=>?_,k3,fun j u hu=>?_⟩
 .cases p with
  | none=>rw[hq] at ha; cases ha
  | some b=>rw[hq] at ha; cases ha; rfl
 .have:=h5 (by omega)
  rw[hq]; simpa using this
 have hlt:=(List.getElem?_eq_some_iff.1 hu).1
 have:=h7 (lo*r.size+j) u (by
  subst e2 e3
  rw[List.getElem?_append_right (by rw[hc1,hlo]; omega),hc1,hlo,Nat.add_sub_cancel_left,List.getElem?_append_left hlt]
  exact hu)
 have hps:=h5 (by omega)
 cases p with
 | none=>cases hps
 | some b=>
  subst hq
  simp only[pb,po,Option.map_some] at this ⊢
  rw[Nat.add_assoc]
  exact this
end
end Go.EL
namespace Go.EL
open Go.IntKind (i8 i16 i32 i64 u8 u16 u32 u64)
open Go Go.RowKit Go.Proofs
theorem ZB{α:Type}(mk:α->Value)(n:Nat)(f:Fin n->α):(vecG mk n f).toArray.size=n:=by simp[ZdK]
theorem bdec(b:Bool):b=decide (b=true):=by cases b <;> rfl
section
variable {P:Program}{N:Nat}{Q:Post}{fr:Fr}{S:Asrt}{ops:Array Oper}{l:List Oper}{dst:Option Nat}{ty:TypeId}{pos:String}{af:Array Edge}{g:Option (Nat×Bool)}
variable {w0:Bs}{G0 G:Mem}{L:Lo}{α:Type}{r:Rp α}
theorem Y0.idxA{t e:TypeId}{x y:Operand}{len b off:Nat}{k:IntKind}{i:Int}(ht:P.underlying t=some (.array len e))(hsz:(P.info? e).map (·.size)=some 1)
  (hx:fr.ev x=some (.pointer (some ⟨b,off,none⟩))) (hy:fr.ev y=some (.int k i)) (hi:0<=i/\i<len):Y0 P N ⟨dst,.indexAddr t x y,ty,pos,af,g⟩ fr S (.pointer (some ⟨b,off+i.toNat,none⟩)):=
 (Y0.idxArr ht hsz hx hy hi).eq (by simp)
theorem Y0.idxA0{t e:TypeId}{x y:Operand}{len b:Nat}{k:IntKind}{i:Int}(ht:P.underlying t=some (.array len e))(hsz:(P.info? e).map (·.size)=some 1)
  (hx:fr.ev x=some (.pointer (some ⟨b,0,none⟩))) (hy:fr.ev y=some (.int k i)) (hi:0<=i/\i<len):Y0 P N ⟨dst,.indexAddr t x y,ty,pos,af,g⟩ fr S (.pointer (some ⟨b,i.toNat,none⟩)):=
 (Y0.idxArr ht hsz hx hy hi).eq (by simp)
theorem Y0.lenS{x:Operand}{t:TypeId}{s:ByteArray}(ht:P.underlying t=some .string)(hx:fr.ev x=some (.string s)):Y0 P N ⟨dst,.call ⟨.builtin .len,#[x],#[t]⟩,ty,pos,af,g⟩ fr S (.int .i64 (s.size:Int)):=fun a w ha _=>by
 simp[execOp,resolve,invoke,builtin,ha.ev hx,Builtin.len_,run_underlying ht,goInt]
theorem Ze2{e:TypeId}{k:IntKind}(he:P.underlying e=some (.int k))(hs:ScalT P e)(hc:P.cellsOf e=1){n:Nat}(a b:Fin n->Int)(w:World)(d:Nat):∀ (is:List Nat),(∀ i,i ∈ is->i<n)->
  (Op.eqItems (d+1) e (P.cellsOf e) (vecL k n a).toArray (vecL k n b).toArray is).run P w = .ok (decide (∀ i:Fin n,i.val ∈ is->a i=b i)) w
 | [],_=>by simp[Op.eqItems]
 | i::is,h=>by
  have hi:i<n:=h i (by simp)
  have ih:=Ze2 he hs hc a b w d is (fun j hj=>h j (by simp[hj]))
  have p1:(part e (vecL k n a).toArray (i*P.cellsOf e)).run P w = .ok (.int k (a ⟨i,hi⟩)) w:=Zd5 hs (by rw[hc,Nat.mul_one,List.getElem?_toArray]; exact ZcK _ n a hi) w
  have p2:(part e (vecL k n b).toArray (i*P.cellsOf e)).run P w = .ok (.int k (b ⟨i,hi⟩)) w:=Zd5 hs (by rw[hc,Nat.mul_one,List.getElem?_toArray]; exact ZcK _ n b hi) w
  have p3:=run_equalIn_int (P:=P) w d e k k (a ⟨i,hi⟩) (b ⟨i,hi⟩) he
  simp only[Op.eqItems,Sem.run_bind,p1,p2,p3,Result.andThen_ok]
  by_cases hab:a ⟨i,hi⟩=b ⟨i,hi⟩
  .simp only[hab,beq_self_eq_true,Bool.not_true,Bool.false_eq_true,if_false,ih]
   congr 1
   apply decide_eq_decide.2
   constructor
   .intro hh j hj
    rcases List.mem_cons.1 hj with e|e
    .have:j=⟨i,hi⟩:=Fin.ext e
     rw[this]; exact hab
    exact hh j e
   exact fun hh j hj=>hh j (by simp[hj])
  have hb:(a ⟨i,hi⟩ == b ⟨i,hi⟩)=false:=by simpa using hab
  have hd:decide (∀ j:Fin n,j.val ∈ i::is->a j=b j)=false:=decide_eq_false fun hh=>hab (hh ⟨i,hi⟩ (by simp))
  rw[hd]
  simp[hb]
instance decF {n:Nat}:DecidableEq (Fin n->Int):=fun a b=>decidable_of_iff (∀ i,a i=b i) ⟨fun h=>funext h,fun h i=>by rw[h]⟩
theorem Zgm{t e:TypeId}{k:IntKind}{n:Nat}(ht:P.underlying t=some (.array n e))(he:P.underlying e=some (.int k))(hs:ScalT P e)(hz:(P.info? e).map (·.size)=some 1)(a b:Fin n->Int)(w:World):
  (Op.equal t (.agg (vecL k n a).toArray) (.agg (vecL k n b).toArray)).run P w = .ok (decide (a=b)) w:=by
 cases hi:P.info? e with
 | none=>simp[hi] at hz
 | some i=>
  have hc:P.cellsOf e=1:=by simp[Program.cellsOf,hz]
  have h1:=run_equalIn_array (P:=P) w 9999 (vecL k n a).toArray (vecL k n b).toArray ht hi
  have h2:=Ze2 he hs hc a b w 9998 (List.range n) (by simp)
  unfold Op.equal
  show (Op.equalIn (9999+1) t _ _).run P w=_
  rw[h1,h2]
  congr 1
  apply decide_eq_decide.2
  constructor
  .intro h; funext j; exact h j (by simp)
  intro h j _; rw[h]
theorem Y0.eqlV{t e yt:TypeId}{x y:Operand}{k:IntKind}{n:Nat}{a b:Fin n->Int}(ht:P.underlying t=some (.array n e))(he:P.underlying e=some (.int k))(hs:ScalT P e)(hz:(P.info? e).map (·.size)=some 1)(hgd:P.eqGuardType P.depth t=false)
  (hx:fr.ev x=some (.agg (vecL k n a).toArray)) (hy:fr.ev y=some (.agg (vecL k n b).toArray)):Y0 P N ⟨dst,.binOp .eql t x y yt,ty,pos,af,g⟩ fr S (.bool (decide (a=b))):=
 Y0.bin hx hy (fun w=>run_eqGuard_agg w _ _ _ _ _ _ hgd) fun w=>by simp[binOp,Zgm ht he hs hz]
theorem Y0.neqV{t e yt:TypeId}{x y:Operand}{k:IntKind}{n:Nat}{a b:Fin n->Int}(ht:P.underlying t=some (.array n e))(he:P.underlying e=some (.int k))(hs:ScalT P e)(hz:(P.info? e).map (·.size)=some 1)(hgd:P.eqGuardType P.depth t=false)
  (hx:fr.ev x=some (.agg (vecL k n a).toArray)) (hy:fr.ev y=some (.agg (vecL k n b).toArray)):Y0 P N ⟨dst,.binOp .neq t x y yt,ty,pos,af,g⟩ fr S (.bool (decide (¬ a=b))):=
 Y0.bin hx hy (fun w=>run_eqGuard_agg w _ _ _ _ _ _ hgd) fun w=>by simp[binOp,Zgm ht he hs hz]
theorem Zm3{t e:TypeId}{n cap sz:Nat}{p:Option Addr}{xs:List α}(ht:P.underlying t=some (.slice e))(hsz:(P.info? e).map (·.size)=some sz)(hsr:sz=r.size)(h:SlR r G (.slice p n cap) xs){low high:Option Value}{lo hi:Int}
  (hlo:low=none/\lo=0\/∃ k,low=some (.int k lo)) (hhi:high=none/\hi=(xs.length:Int)\/∃ k,high=some (.int k hi)) (hb:0<=lo/\lo<=hi/\hi<=(xs.length:Int)) (w:World) :
  ∃ v,(Instr.slice t (.slice p n cap) low high none).run P w = .ok v w/\SlR r G v ((xs.take hi.toNat).drop lo.toNat):=by
 have hn:n=xs.length:=by obtain⟨p',cap',cs,h1,_⟩:=h; cases h1; rfl
 have hcap:n<=cap/\cap<=9223372036854775807:=by obtain⟨p',cap',cs,h1,h2,_⟩:=h; cases h1; exact h2
 have hspot:∀ a,p=some a->0<cap->a.spot=none:=by obtain⟨p',cap',cs,h1,_,h2,_⟩:=h; cases h1; exact h2
 have hbs:(Instr.sliceBounds true n cap low high none).run P w = .ok (lo.toNat,hi.toNat,cap) w:=by
  rcases hlo with ⟨rfl,rfl⟩|⟨k,rfl⟩ <;> rcases hhi with ⟨rfl,rfl⟩|⟨k',rfl⟩
  .simp[Instr.sliceBounds,hn]
  .have h1:0<=hi/\hi<=(cap:Int):=by omega
   simp[Instr.sliceBounds,Instr.sliceBound,asIntOf,h1]
  .have h1:0<=lo/\lo<=(n:Int):=by omega
   simp[Instr.sliceBounds,Instr.sliceBound,asIntOf,h1,hn]
   intro h; omega
  have h1:0<=hi/\hi<=(cap:Int):=by omega
  have h2:0<=lo/\lo<=((hi.toNat:Nat):Int):=by omega
  simp[Instr.sliceBounds,Instr.sliceBound,asIntOf,h1,h2]
  intro h; omega
 refine⟨.slice (if cap=lo.toNat then p else p.map (·.add (lo.toNat*sz))) (hi.toNat-lo.toNat) (cap-lo.toNat),?_,?_⟩
 .simp[Instr.slice,run_underlying ht,hbs,run_sizeOf hsz]
 refine h.take (by omega) (by omega) ?_ (by omega)
 by_cases hc:cap=lo.toNat
 .right
  rw[if_pos hc]
  exact⟨by omega,rfl,by omega⟩
 left
 rw[if_neg hc]
 cases p with
 | none=>rfl
 | some a=>
  obtain⟨ab,ao,ap⟩:=a
  have:=hspot _ rfl (by omega)
  dsimp only at this
  subst this
  simp only[Option.map_some,Z6,hsr]
theorem WL.sliceQ{t e:TypeId}{x:Operand}{lowo higho:Option Operand}{low high:Option Value}{n cap sz:Nat}{p:Option Addr}{xs:List α}{lo hi:Int}(hg:guardOK ops fr ⟨dst,.slice t x lowo higho none,ty,pos,af,g⟩ true)(hd:dstOK N dst)
  (ht:P.underlying t=some (.slice e)) (hsz:(P.info? e).map (·.size)=some sz) (hsr:sz=r.size) (h:SlR r G (.slice p n cap) xs) (hx:fr.ev x=some (.slice p n cap))
  (hl:∀ a,Rel N fr a->lowo.map a.eval=low) (hh:∀ a,Rel N fr a->higho.map a.eval=high)
  (hlo:low=none/\lo=0\/∃ k,low=some (.int k lo)) (hhi:high=none/\hi=(xs.length:Int)\/∃ k,high=some (.int k hi)) (hb:0<=lo/\lo<=hi/\hi<=(xs.length:Int))
  (k:∀ p' cap',SlR r G (.slice p' ((xs.take hi.toNat).drop lo.toNat).length cap') ((xs.take hi.toNat).drop lo.toNat)->WL P N ops Q l (putFr dst (.slice p' ((xs.take hi.toNat).drop lo.toNat).length cap') fr) (St w0 G0 G L)) :
  WL P N ops Q (⟨dst,.slice t x lowo higho none,ty,pos,af,g⟩::l) fr (St w0 G0 G L):=by
 refine WL.yr (Φ:=fun v w=>SlR r G v ((xs.take hi.toNat).drop lo.toNat)/\St w0 G0 G L w) hg (fun a w ha hs=>?_) hd (fun v a w ha ⟨h1,h2⟩=>?_)
 .obtain⟨v,hr,hv⟩:=Zm3 ht hsz hsr h hlo hhi hb w
  have:(execOp a.eval ⟨dst,.slice t x lowo higho none,ty,pos,af,g⟩).run P w = .ok (.value v) w:=by
   have h1:=hl a ha
   have h2:=hh a ha
   simp only[execOp,ha.ev hx,h1,h2,Option.map_none]
   simp[Instr.sliceAt,run_underlying ht,hr]
  rw[this]
  exact⟨hv,hs⟩
 obtain⟨p',cap',rfl⟩:=h1.form
 exact k p' cap' h1 a w ha h2
theorem WL.sliceRH{t e:TypeId}{x x2:Operand}{k2:IntKind}{n cap sz:Nat}{p:Option Addr}{xs:List α}{hi:Int}(hg:guardOK ops fr ⟨dst,.slice t x none (some x2) none,ty,pos,af,g⟩ true)(hd:dstOK N dst)
  (ht:P.underlying t=some (.slice e)) (hsz:(P.info? e).map (·.size)=some sz) (hsr:sz=r.size) (h:SlR r G (.slice p n cap) xs) (hx:fr.ev x=some (.slice p n cap)) (h2:fr.ev x2=some (.int k2 hi)) (hb:0<=(0:Int)/\(0:Int)<=hi/\hi<=(xs.length:Int))
  (k:∀ p' cap',SlR r G (.slice p' ((xs.take hi.toNat).drop (0:Int).toNat).length cap') ((xs.take hi.toNat).drop (0:Int).toNat)->WL P N ops Q l (putFr dst (.slice p' ((xs.take hi.toNat).drop (0:Int).toNat).length cap') fr) (St w0 G0 G L)) :
  WL P N ops Q (⟨dst,.slice t x none (some x2) none,ty,pos,af,g⟩::l) fr (St w0 G0 G L):=
 WL.sliceQ (low:=none) (high:=some (.int k2 hi)) hg hd ht hsz hsr h hx (fun a ha=>rfl) (fun a ha=>by simp[ha.ev h2]) (.inl ⟨rfl,rfl⟩) (.inr ⟨_,rfl⟩) hb k
end
end Go.EL

namespace Go.EL
open Go.IntKind (i8 i16 i32 i64 u8 u16 u32 u64)
open Go Go.RowKit Go.Proofs
def CellT(tk:Option Ow)(o:Nat)(u:Value):Prop:=∃ b c e m,tk=some ⟨b,.cells c e (0,0),m⟩/\c[o]? = some u
def RowR{α:Type}(r:Rp α)(e:TypeId)(G:Mem)(v:Value)(xs:List α):Option Ow->Prop
 | none=>xs=[]/\∃ p,v = .slice p 0 0/\∀ a,p=some a->(0:Nat)<0->a.spot=none
 | some x=>∃ cap cs rest,v = .slice (some ⟨x.b,0,none⟩) xs.length cap/\x.o = .cells (cs++rest).toArray e (0,0)/\x.m=0/\RepL r G cs xs/\(cs++rest).length=cap*r.size/\cap<=maxLen/\xs.length<=cap
section
variable {w0:Bs}{G0 G:Mem}{L:Lo}{α:Type}{r:Rp α}{e:TypeId}
theorem RowR.form{v:Value}{xs:List α}{tk:Option Ow}(h:RowR r e G v xs tk):∃ p cap,v = .slice p xs.length cap:=by
 cases tk with
 | none=>obtain⟨rfl,p,h,_⟩:=h; exact⟨p,0,h⟩
 | some x=>obtain⟨cap,cs,rest,h,_⟩:=h; exact⟨_,cap,h⟩
theorem RowR.mono{G':Mem}{v:Value}{xs:List α}{tk:Option Ow}(h:RowR r e G v xs tk)(hle:Mem.le G G'):RowR r e G' v xs tk:=by
 cases tk with
 | none=>exact h
 | some x=>obtain⟨cap,cs,rest,h1,h2,h3,h4,h5⟩:=h; exact⟨cap,cs,rest,h1,h2,h3,h4.mono hle,h5⟩
theorem RowR.nil:RowR r e G (.slice none 0 0) [] none:=⟨rfl,none,rfl,fun _ h=>by cases h⟩
theorem RowR.at{p:Option Addr}{n cap:Nat}{xs:List α}{tk:Option Ow}(h:RowR r e G (.slice p n cap) xs tk){i:Int}{x:α}(hi:0<=i/\xs[i.toNat]? = some x):AtK r G (CellT tk) (i.toNat*r.size) x:=by
 cases tk with
 | none=>obtain⟨rfl,_⟩:=h; simp at hi
 | some y=>
  obtain⟨cap',cs,rest,h1,h2,h3,h4,h5,_⟩:=h
  obtain⟨c,hc1,hc2⟩:=h4.get hi.2
  obtain⟨yb,yo,ym⟩:=y
  dsimp only at h2 h3
  subst h2 h3
  refine⟨c,hc1,fun j u hu=>⟨yb,_,e,0,rfl,?_⟩⟩
  have:=hc2 j u hu
  rw[List.getElem?_toArray,List.getElem?_append_left (List.getElem?_eq_some_iff.1 this).1]
  exact this
theorem RowR.block{p:Option Addr}{n cap:Nat}{xs:List α}{x:Ow}(h:RowR r e G (.slice p n cap) xs (some x)):pb p=x.b/\po p=0:=by
 obtain⟨cap',cs,rest,h1,_⟩:=h
 cases h1
 exact⟨rfl,rfl⟩
theorem St.unmark{i b m:Nat}{o:Obj}{w:World}(h:St w0 G0 G ((i,some ⟨b,o,m⟩)::L) w)(hG:∀ k,G b k=none):St w0 G0 G ((i,some ⟨b,o,0⟩)::L) w:=by
 have hi:Lo.get ((i,some ⟨b,o,m⟩)::L) i=some ⟨b,o,m⟩:=by rw[Lo.Zi,if_pos rfl]
 obtain⟨l1,l2,l3⟩:=h.loc i _ hi
 have key:∀ j y,Lo.get ((i,some ⟨b,o,0⟩)::L) j=some y->∃ y',Lo.get ((i,some ⟨b,o,m⟩)::L) j=some y'/\y'.b=y.b:=by
  intro j y hj
  rw[Lo.Zi] at hj ⊢
  split at hj
  .rename_i e; rw[if_pos e]; cases hj; exact⟨_,rfl,rfl⟩
  rename_i e; rw[if_neg e]; exact⟨y,hj,rfl⟩
 refine { h with loc:=fun j y hj=>?_,dist:=fun j k y z hne e1 e2=>?_ }
 .rw[Lo.Zi] at hj
  split at hj
  .rename_i e
   subst e
   cases hj
   exact⟨l1,l2,fun k _=>hG k⟩
  rename_i e
  exact h.loc j y (by rw[Lo.Zi,if_neg e]; exact hj)
 obtain⟨y',k1,k2⟩:=key j y e1
 obtain⟨z',k3,k4⟩:=key k z e2
 rw[<- k2,<- k4]
 exact h.dist j k y' z' hne k1 k3
theorem RowR.freeze{v:Value}{xs:List α}{tk:Option Ow}{key:Nat}(h:RowR r e G v xs tk)(hid:L.get key=tk)(h0:w0.L.get key=none){w:World}(hs:St w0 G0 G L w):
  ∃ G' tk',Mem.le G G'/\SlR r G' v xs/\Tok r.size e v xs.length tk'/\St w0 G0 G' ((key,tk')::L) w/\(∀ Gx L' w',Mem.le G Gx->Mem.le G' Gx->St w0 G0 Gx ((key,tk')::L') w'->St w0 G0 G ((key,tk)::L') w'):=by
 cases tk with
 | none=>
  obtain⟨rfl,p,rfl,hp⟩:=h
  exact⟨G,none,Mem.le_refl _,⟨p,0,[],rfl,by simp,hp,fun h=>by simp at h,rfl,fun j u h=>by simp at h⟩,⟨p,rfl⟩,hs.weaken (Lo.Zd hid (Lo.Zb3 _)),fun Gx L' w' h1 _ h2=>h2.memLe hs.base h1⟩
 | some x=>
  obtain⟨cap,cs,rest,rfl,h2,h3,h4,h5,h6,h7⟩:=h
  obtain⟨xb,xo,xm⟩:=x
  dsimp only at h2 h3
  subst h2 h3
  have hl:=h4.len
  obtain⟨k1,k2⟩:=hs.know (i:=key) (n:=xs.length*r.size) hid h0 (Nat.zero_le _)
  refine⟨_,some ⟨xb,.cells (cs++rest).toArray e (0,0),xs.length*r.size⟩,k2,⟨_,cap,cs,rfl,by simp only[maxLen] at h6; omega,fun a ha _=>by cases ha; rfl,fun _=>rfl,h4.mono k2,fun j u hu=>?_⟩,⟨cap,_,rfl,rfl,rfl,by simpa using h5,h6,h7⟩,k1,fun Gx L' w' e1 e2 e3=>?_⟩
  .have hj:=(List.getElem?_eq_some_iff.1 hu).1
   show Mem.row G xb _ 0 _ xb (0+j)=some u
   rw[Nat.zero_add,Mem.ZeB (Nat.zero_le _) (by rw[<- hl]; exact hj),List.getElem?_toArray,List.getElem?_append_left hj]
   exact hu
  exact (e3.memLe hs.base e1).unmark (fun k=>(hs.loc key _ hid).2.2 k (Nat.zero_le _))
end
section
variable {P:Program}{N:Nat}{Q:Post}{fr:Fr}{S:Asrt}{ops:Array Oper}{l:List Oper}{dst:Option Nat}{ty:TypeId}{pos:String}{af:Array Edge}{g:Option (Nat×Bool)}
variable {w0:Bs}{G0 G:Mem}{L:Lo}{α:Type}{r:Rp α}{e:TypeId}
theorem WL.freezeT{v:Value}{xs:List α}{tk:Option Ow}(key:Nat)(h:RowR r e G v xs tk)(hid:L.get key=tk)(h0:w0.L.get key=none)
  (k:∀ tk' G',Mem.le G G'->SlR r G' v xs->Tok r.size e v xs.length tk'->WL P N ops Q l fr (St w0 G0 G' ((key,tk')::L))):WL P N ops Q l fr (St w0 G0 G L):=fun a w ha hs=>by
 obtain⟨G',tk',h1,h2,h3,h4,_⟩:=h.freeze hid h0 hs
 exact k tk' G' h1 h2 h3 a w ha h4
theorem WE.freezeT{x:Exit}{v:Value}{xs:List α}{tk:Option Ow}(key:Nat)(h:RowR r e G v xs tk)(hid:L.get key=tk)(h0:w0.L.get key=none)
  (k:∀ tk' G',Mem.le G G'->SlR r G' v xs->Tok r.size e v xs.length tk'->WE N Q x fr (St w0 G0 G' ((key,tk')::L))):WE N Q x fr (St w0 G0 G L):=fun a w ha hs=>by
 obtain⟨G',tk',h1,h2,h3,h4,_⟩:=h.freeze hid h0 hs
 exact k tk' G' h1 h2 h3 a w ha h4
theorem WC.freezeT{x:Code}{v:Value}{xs:List α}{tk:Option Ow}(key:Nat)(h:RowR r e G v xs tk)(hid:L.get key=tk)(h0:w0.L.get key=none)
  (k:∀ tk' G',Mem.le G G'->SlR r G' v xs->Tok r.size e v xs.length tk'->WC P N x Q fr (St w0 G0 G' ((key,tk')::L))):WC P N x Q fr (St w0 G0 G L):=fun a w ha hs=>by
 obtain⟨G',tk',h1,h2,h3,h4,_⟩:=h.freeze hid h0 hs
 exact k tk' G' h1 h2 h3 a w ha h4
theorem Y0.lenRow{x:Operand}{t e':TypeId}{v:Value}{xs:List α}{tk:Option Ow}(ht:P.underlying t=some (.slice e'))(h:RowR r e G v xs tk)(hx:fr.ev x=some v):Y0 P N ⟨dst,.call ⟨.builtin .len,#[x],#[t]⟩,ty,pos,af,g⟩ fr S (.int .i64 (xs.length:Int)):=by
 obtain⟨p,cap,rfl⟩:=h.form
 exact Y0.lenSl ht hx
theorem Y0.idxRow{t e':TypeId}{x y:Operand}{n cap sz:Nat}{p:Option Addr}{k:IntKind}{i:Int}{xs:List α}{z:α}{tk:Option Ow}(ht:P.underlying t=some (.slice e'))(hsz:(P.info? e').map (·.size)=some sz)(h:RowR r e G (.slice p n cap) xs tk)
  (hx:fr.ev x=some (.slice p n cap)) (hy:fr.ev y=some (.int k i)) (hi:0<=i/\xs[i.toNat]? = some z):Y0 P N ⟨dst,.indexAddr t x y,ty,pos,af,g⟩ fr S (.pointer (some ⟨pb p,i.toNat*sz,none⟩)):=by
 cases tk with
 | none=>obtain⟨rfl,_⟩:=h; simp at hi
 | some q=>
  obtain⟨cap',cs,rest,h1,_⟩:=h
  cases h1
  have hlt:=(List.getElem?_eq_some_iff.1 hi.2).1
  exact (Y0.idxSl ht hsz hx hy (by omega)).eq (by simp[pb])
theorem Y0.loadT{t:TypeId}{x:Operand}{p:Option Addr}{n cap off key:Nat}{v:Value}{xs:List α}{tk:Option Ow}(ht:ScalT P t)(h:RowR r e G (.slice p n cap) xs tk)(hid:L.get key=tk)(hx:fr.ev x=some (.pointer (some ⟨pb p,off,none⟩)))
  (hv:CellT tk off v):Y0 P N ⟨dst,.load t x,ty,pos,af,g⟩ fr (St w0 G0 G L) v:=by
 obtain⟨b,c,e',m,rfl,hc⟩:=hv
 rw[h.block.1] at hx
 exact Y0.loadL key ht hx hid hc
theorem WL.storeT{t:TypeId}{x y:Operand}{p:Option Addr}{n cap sz:Nat}{val:Value}{cs':List Value}{i:Int}{xs:List α}{z z':α}{tk:Option Ow}(key:Nat)(hg:guardOK ops fr ⟨none,.store t x y,ty,pos,af,g⟩ true)(ht:(P.info? t).map (·.size)=some sz)(hsr:sz=r.size)
  (h:RowR r e G (.slice p n cap) xs tk) (hid:L.get key=tk) (hx:fr.ev x=some (.pointer (some ⟨pb p,i.toNat*sz,none⟩))) (hy:fr.ev y=some val) (hval:val.cells=cs'.toArray) (hrep:r.rep G cs' z') (hi:0<=i/\xs[i.toNat]? = some z)
  (k:∀ tk',RowR r e G (.slice p n cap) (xs.set i.toNat z') tk'->WL P N ops Q l fr (St w0 G0 G ((key,tk')::L))):WL P N ops Q (⟨none,.store t x y,ty,pos,af,g⟩::l) fr (St w0 G0 G L):=by
 cases tk with
 | none=>obtain⟨rfl,_⟩:=h; simp at hi
 | some q=>
  obtain⟨cap',cs,rest,h1,h2,h3,h4,h5,h6,h7⟩:=h
  cases h1
  obtain⟨qb,qo,qm⟩:=q
  dsimp only at h2 h3
  subst h2 h3
  have hlt:=(List.getElem?_eq_some_iff.1 hi.2).1
  have hsp:xs=xs.take i.toNat++(xs[i.toNat]::xs.drop (i.toNat+1)):=by simp
  have hcl:=h4.len
  rw[hsp] at h4
  obtain⟨c1,d1,e1,k1,k2⟩:=h4.split
  obtain⟨c2,d2,e2,k3,k4⟩:=k2
  have l1:=k1.len
  have l2:=r.len k3
  have l3:=r.len hrep
  have hti:(xs.take i.toNat).length=i.toNat:=by simp; omega
  rw[hti] at l1
  have hnew:RepL r G (c1++(cs'++d2)) (xs.set i.toNat z'):=by
   rw[List.set_eq_take_append_cons_drop,if_pos hlt]
   exact k1.append ⟨cs',d2,rfl,hrep,k4⟩
  have hcells:((cs++rest).take (i.toNat*sz)++cs'++(cs++rest).drop (i.toNat*sz+sz))=(c1++(cs'++d2))++rest:=by
   subst e1 e2
   rw[hsr,<- l1]
   have t1:(c1++(c2++d2)++rest).take c1.length=c1:=by rw[List.append_assoc]; exact List.take_left
   have t2:(c1++(c2++d2)++rest).drop (c1.length+r.size)=d2++rest:=by
    rw[<- l2]
    have:c1++(c2++d2)++rest=(c1++c2)++(d2++rest):=by simp only[List.append_assoc]
    rw[this,<- List.length_append]
    exact List.drop_left
   rw[t1,t2]
   simp only[List.append_assoc]
  have hx':fr.ev x=some (.pointer (some ⟨qb,i.toNat*sz,none⟩)):=hx
  refine WL.ys' (S':=St w0 G0 G ((key,some ⟨qb,.cells ((c1++(cs'++d2))++rest).toArray e (0,0),0⟩)::L)) hg (fun a w ha hs=>?_) (k _ ?_)
  .have hb:=(hs.loc key _ hid).1
   have hr:=run_storeCells_at P qb (i.toNat*sz) e cs' 0 (cs++rest).toArray w hb (by
    simp only[List.size_toArray]
    rw[List.length_append,hcl,l3,<- hsr]
    have:(i.toNat+1)*sz<=xs.length*sz:=Nat.mul_le_mul_right _ hlt
    rw[Nat.add_mul] at this
    omega) (r.one hrep)
   simp only[Nat.add_zero] at hr
   rw[l3,<- hsr] at hr
   rw[hcells] at hr
   refine⟨w.setRow qb ((c1++(cs'++d2))++rest).toArray,?_,hs.upd hid ?_ (Nat.le_refl _) (fun k _ hk _=>absurd hk (Nat.not_lt_zero k)) (fun k hk=>?_) rfl rfl rfl rfl (by simp[World.setRow])⟩
   .simp[execOp,ha.ev hx',ha.ev hy,Instr.storeAt,Instr.sureAddr,storeVar,hval,run_sizeOf ht,l3,hsr,hr]
    rw[hsr] at hr
    simp[hr]
   .simp[World.setRow,Array.getElem?_modify,hb]
   simp only[World.setRow,Array.getElem?_modify]
   rw[if_neg (fun e=>hk e.symm)]
  refine⟨cap,c1++(cs'++d2),rest,by simp,rfl,rfl,hnew,?_,h6,by simpa using h7⟩
  rw[List.length_append,hnew.len,List.length_set,<- h5,List.length_append,hcl]
theorem Zlm{t:TypeId}{z:Value}{bytes m c:Nat}{xs ys:List α}{v:Value}{p:Option Addr}{id:Nat}{tk:Option Ow}(ty:TypeId)(ht:P.underlying t=some (.slice e))(hE:ElT P e z r.size bytes)(hzs:z.cells.size=r.size)(hby:bytes<=100000)
  (hrow:RowR r e G v xs tk) (hid:L.get id=tk) (hx:SlR r G (.slice p m c) ys) (hsm:(xs++ys).length<=small)
  (w:World) (hs:St w0 G0 G L w) :
  ∃ v' tk' w',(Builtin.append_ #[t,t] ty #[v,.slice p m c]).run P w = .ok v' w'/\RowR r e G v' (xs++ys) tk'/\St w0 G0 G ((id,tk')::L) w':=by
 obtain⟨i,hi,hz,hsz,hbt⟩:=hE.parts
 obtain⟨px,capx,ds,hx1,hx2,hx3,hx4,hx5,hx6⟩:=hx
 simp only[Value.slice.injEq] at hx1
 obtain⟨rfl,rfl,rfl⟩:=hx1
 have hlx:=hx5.len
 simp only[List.length_append,small] at hsm
 have hmaxL:xs.length+ys.length<=maxLen:=by simp only[maxLen]; omega
 have hb1:(xs.length+ys.length)*bytes<=140737488355328:=by
  have:(xs.length+ys.length)*bytes<=1000000000*100000:=Nat.mul_le_mul (by omega) hby
  omega
 by_cases hm:ys.length=0
 .have hy:ys=[]:=List.eq_nil_of_length_eq_zero hm
  subst hy
  simp only[List.length_nil,List.append_nil] at *
  refine⟨v,tk,w,?_,hrow,hs.weaken (Lo.Zd hid (Lo.Zb3 _))⟩
  cases tk with
  | none=>
   obtain⟨rfl,q,rfl,_⟩:=hrow
   cases q with
   | none=>cases p with
    | none=>simp[Builtin.append_,run_underlying ht,sizeOf,typeInfo,hi,Builtin.lenOf,Builtin.firstCells]
    | some a=>simp[Builtin.append_,run_underlying ht,sizeOf,typeInfo,hi,Builtin.lenOf,Builtin.firstCells,loadCells,loadCellsFrom]
   | some a'=>cases p with
    | none=>simp[Builtin.append_,run_underlying ht,sizeOf,typeInfo,hi,Builtin.lenOf,Builtin.firstCells,storeCells]
    | some a=>simp[Builtin.append_,run_underlying ht,sizeOf,typeInfo,hi,Builtin.lenOf,Builtin.firstCells,storeCells,loadCells,loadCellsFrom]
  | some q=>
   obtain⟨cap,cs,rest,rfl,_,_,_,_,_,hle⟩:=hrow
   cases p with
   | none=>simp[Builtin.append_,run_underlying ht,sizeOf,typeInfo,hi,Builtin.lenOf,Builtin.firstCells,hle,storeCells]
   | some a=>simp[Builtin.append_,run_underlying ht,sizeOf,typeInfo,hi,Builtin.lenOf,Builtin.firstCells,hle,storeCells,loadCells,loadCellsFrom]
 have hp:=hx4 (by omega)
 obtain⟨pa,hpa⟩:=Option.isSome_iff_exists.1 hp
 subst hpa
 obtain⟨sb,so,ss⟩:=pa
 have hss:=hx3 _ rfl (by omega)
 dsimp only at hss
 subst hss
 have hx6:∀ j u,ds[j]? = some u->G sb (so+j)=some u:=hx6
 have hnews:∀ j u,ds[j]? = some u->w.cell? ((⟨sb,so,none⟩:Addr).add j)=some u:=fun j u hu=>by rw[Z6]; exact hs.imm _ _ _ (hx6 j u hu)
 have hone:=hx5.one
 have hlx':ds.length=ys.length*i.size:=by rw[hsz]; exact hlx
 have grow:∀ (pv:Option Addr) (cap:Nat) (cs:List Value),RepL r G cs xs->(Builtin.firstCells i.size xs.length (.slice pv xs.length cap)).run P w.drew = .ok cs.toArray w.drew->cap<xs.length+ys.length->
   ∃ v' tk' w',(Builtin.append_ #[t,t] ty #[.slice pv xs.length cap,.slice (some ⟨sb,so,none⟩) ys.length c]).run P w = .ok v' w'/\RowR r e G v' (xs++ys) tk'/\St w0 G0 G ((id,tk')::L) w':=by
  intro pv cap cs hcs hold hg
  have hcap:=grownCap_ge w (xs.length+ys.length) cap e
  have hmax:=grownCap_le_maxLen w (xs.length+ys.length) cap e hmaxL
  have hsrc:=Src.ofSlice (P:=P) w (size:=i.size) ht ⟨sb,so,none⟩ ys.length c ds hlx' hnews hone
  have hr:=run_append_grow_src (P:=P) w t t ty e i z ht hi hz pv xs.length cap cs hold _ ys.length ds hsrc hg (by omega) (growslice_fits hg (by rw[hbt]; exact hb1))
  have hsd:St w0 G0 G L w.drew:=hs.drew
  have h3:=hsd.push id (.cells ((cs++ds).toArray++Builtin.zeroCells z.cells (grownCap w (xs.length+ys.length) cap e-(xs.length+ys.length))) e)
  have hlen:(cs++ds).length=(xs.length+ys.length)*r.size:=by rw[List.length_append,hcs.len,hlx,Nat.add_mul]
  refine⟨_,some ⟨w.drew.heap.size,.cells ((cs++ds).toArray++Builtin.zeroCells z.cells (grownCap w (xs.length+ys.length) cap e-(xs.length+ys.length))) e (0,0),0⟩,_,hr,?_,h3⟩
  refine⟨grownCap w (xs.length+ys.length) cap e,cs++ds,(Builtin.zeroCells z.cells (grownCap w (xs.length+ys.length) cap e-(xs.length+ys.length))).toList,by rw[List.length_append]; rfl,?_,rfl,hcs.append hx5,?_,hmax,by rw[List.length_append]; exact hcap⟩
  .dsimp only
   congr 1
   apply Array.ext'
   simp
  have hzc:(Builtin.zeroCells z.cells (grownCap w (xs.length+ys.length) cap e-(xs.length+ys.length))).toList.length=(grownCap w (xs.length+ys.length) cap e-(xs.length+ys.length))*r.size:=by
   rw[Array.length_toList (xs:=Builtin.zeroCells z.cells _),size_zeroCells,hzs]
  rw[List.length_append,hlen,hzc,<- Nat.add_mul]
  congr 1; omega
 cases tk with
 | none=>
  obtain⟨rfl,q,rfl,hq⟩:=hrow
  refine grow q 0 [] rfl ?_ (by simp; omega)
  cases q with
  | none=>exact run_firstCells_none _ _ _ _ _
  | some a=>exact run_firstCells_some _ _ _ _ _ _ _ (by simp) (fun j u hu=>by simp at hu)
 | some q=>
  obtain⟨cap,cs,rest,rfl,h2,h3,h4,h5,h6,h7⟩:=hrow
  obtain⟨qb,qo,qm⟩:=q
  dsimp only at h2 h3
  subst h2 h3
  have hblk:=(hs.loc id _ hid).1
  dsimp only at hblk
  have hlv:=h4.len
  by_cases hroom:xs.length+ys.length<=cap
  .have hfit:xs.length*i.size+ds.length<=(cs++rest).toArray.size:=by
    rw[List.size_toArray,h5,hlx',hsz,<- Nat.add_mul]; exact Nat.mul_le_mul_right _ hroom
   have hr:=run_append_room (P:=P) w t ty e i ht hi qb xs.length cap (cs++rest).toArray hblk ⟨sb,so,none⟩ ys.length c ds hlx' hnews hone hroom hfit
   rw[hsz,<- hlv] at hr
   have e1:(cs++rest).toArray.toList.take cs.length=cs:=by simp
   have e2:(cs++rest).toArray.toList.drop (cs.length+ds.length)=rest.drop ds.length:=by simp
   rw[e1,e2] at hr
   refine⟨_,some ⟨qb,.cells ((cs++ds)++rest.drop ds.length).toArray e (0,0),0⟩,_,hr,?_,hs.upd hid (by simp[World.setRow,Array.getElem?_modify,hblk]) (Nat.le_refl _) (fun k _ hk _=>absurd hk (Nat.not_lt_zero k)) (fun k hk=>?_) rfl rfl rfl rfl (by simp[World.setRow])⟩
   .refine⟨cap,cs++ds,rest.drop ds.length,by rw[List.length_append],rfl,rfl,h4.append hx5,?_,h6,by rw[List.length_append]; exact hroom⟩
    rw[hsz] at hfit hlx'
    simp only[List.size_toArray] at hfit
    rw[List.length_append] at h5 hfit
    simp only[List.length_append,List.length_drop]
    omega
   simp only[World.setRow,Array.getElem?_modify]
   rw[if_neg (fun e=>hk e.symm)]
  refine grow _ cap cs h4 (run_firstCells_some _ _ _ _ _ _ _ (by rw[hlv,hsz]) (fun j u hu=>?_)) (by omega)
  rw[Z6]
  have hb':w.drew.heap[qb]? = some (.cells (cs++rest).toArray e (0,0)):=hblk
  rw[cell_of_row w.drew qb (0+j) _ e (0,0) hb',Nat.zero_add,List.getElem?_toArray,List.getElem?_append_left (List.getElem?_eq_some_iff.1 hu).1]
  exact hu
theorem WL.appendT{t:TypeId}{z:Value}{s x:Operand}{bytes m c:Nat}{v:Value}{xs ys:List α}{p:Option Addr}{tk:Option Ow}(id:Nat)(hg:guardOK ops fr ⟨dst,.call ⟨.builtin .append,#[s,x],#[t,t]⟩,ty,pos,af,g⟩ true)(hd:dstOK N dst)
  (ht:P.underlying t=some (.slice e)) (hE:ElT P e z r.size bytes) (hzs:z.cells.size=r.size) (hby:bytes<=100000) (hs:fr.ev s=some v) (hx:fr.ev x=some (.slice p m c)) (hv:RowR r e G v xs tk) (hid:L.get id=tk)
  (hy:SlR r G (.slice p m c) ys) (hsm:(xs++ys).length<=small)
  (k:∀ p' cap' tk',RowR r e G (.slice p' (xs++ys).length cap') (xs++ys) tk'->WL P N ops Q l (putFr dst (.slice p' (xs++ys).length cap') fr) (St w0 G0 G ((id,tk')::L))) :
  WL P N ops Q (⟨dst,.call ⟨.builtin .append,#[s,x],#[t,t]⟩,ty,pos,af,g⟩::l) fr (St w0 G0 G L):=by
 refine WL.yr (Φ:=fun v' w=>∃ tk',RowR r e G v' (xs++ys) tk'/\St w0 G0 G ((id,tk')::L) w) hg (fun a w ha hs'=>?_) hd (fun v a w ha ⟨tk',h2,h4⟩=>?_)
 .obtain⟨v',tk',w',hr,h2,h4⟩:=Zlm (w0:=w0) (G0:=G0) ty ht hE hzs hby hv hid hy hsm w hs'
  have:(execOp a.eval ⟨dst,.call ⟨.builtin .append,#[s,x],#[t,t]⟩,ty,pos,af,g⟩).run P w = .ok (.value v') w':=by
   simp[execOp,resolve,invoke,builtin,ha.ev hs,ha.ev hx,hr]
  rw[this]
  exact⟨tk',h2,h4⟩
 obtain⟨p',cap',rfl⟩:=h2.form
 exact k p' cap' tk' h2 a w ha h4
end
end Go.EL
namespace Go.EL
open Go.IntKind (i8 i16 i32 i64 u8 u16 u32 u64)
open Go Go.RowKit Go.Proofs
section
variable {P:Program}{N:Nat}{Q:Post}{fr:Fr}{S:Asrt}{ops:Array Oper}{l:List Oper}{dst:Option Nat}{ty:TypeId}{pos:String}{af:Array Edge}{g:Option (Nat×Bool)}
variable {w0:Bs}{G0 G:Mem}{L:Lo}{α:Type}{r:Rp α}{e:TypeId}
theorem Lo.Zf6:∀ {L1:Lo}{i:Nat}{x:Ow},L1.get i=some x->i ∈ L1.map (·.1)
 | [],i,x,h=>by simp[Lo.get] at h
 | p::L1,i,x,h=>by
  obtain⟨k,q⟩:=p
  rw[Lo.Zi] at h
  split at h
  .rename_i e; simp[e]
  have:=Lo.Zf6 h; simp only[List.map_cons,List.mem_cons]; exact .inr this
def Lo.zero(L:Lo):Prop:=∀ p ∈ L,∀ x,p.2=some x->x.m=0
theorem Lo.ZeL:∀ {L:Lo}{i:Nat}{x:Ow},L.zero->L.get i=some x->x.m=0
 | [],i,x,_,h=>by simp[Lo.get] at h
 | p::L,i,x,hz,h=>by
  obtain⟨k,q⟩:=p
  rw[Lo.Zi] at h
  split at h
  .exact hz (k,q) (by simp) x h
  exact Lo.ZeL (L:=L) (fun p hp=>hz p (by simp[hp])) h
theorem YC.yrRO{o:Oper}{f:FuncId}{args args':Array Value}{L1:Lo}{pre:Mem->Prop}{post:Mem->Value->Prop}(h:YC P N o fr (St w0 G0 G L) f args')(sp:CtrL P f args L1 pre (fun G L' v=>L'=L1/\post G v))(e:args'=args)(hp:pre G)
  (h1:Lo.sub L1 L) (hsame:∀ i,i ∈ L1.map (·.1)->L1.get i=L.get i) (hz:w0.L.zero) :
  YR P N o fr (St w0 G0 G L) (fun v w'=>∃ G',Mem.le G G'/\St w0 G0 G' L w'/\post G' v):=fun a w ha hs=>by
 rw[h a w ha hs]
 subst e
 refine (sp w G (hs.hp h1) hp).mono fun e' w' ⟨r,G',L',q1,q2,q3,q4⟩=>⟨r,q1,G',q2.le,?_,q4⟩
 subst q3
 refine hs.ext (R:=L.without (L'.map (·.1))) q2 h1 (fun i x hx=>(Lo.Zcp hx).1) (fun i x hx=>?_) (fun i x y hi _ z hz'=>?_) (fun i x hx=>?_)
 .cases hg:L'.get i with
  | none=>rfl
  | some y=>exact absurd (Lo.Zf6 hg) (Lo.Zcp hx).2
 .rw[Lo.ZeL hz hz']; exact Nat.zero_le _
 by_cases hi:i ∈ L'.map (·.1)
 .left; rw[hsame i hi]; exact hx
 right
 have:∀ (ks:List Nat),i ∉ ks->(L.without ks).get i=L.get i:=by
  intro ks
  induction ks with
  | nil=>intro _; rfl
  | cons k ks ih=>
   intro hk
   simp only[List.mem_cons,not_or] at hk
   simp only[Lo.without,List.map_cons,List.cons_append]
   rw[Lo.Zi,if_neg (fun e=>hk.1 e.symm)]
   exact ih hk.2
 rw[this _ hi]; exact hx
theorem WL.callRO{op:Op}{f:FuncId}{args args':Array Value}{L1:Lo}{pre:Mem->Prop}{post:Mem->Value->Prop}(hg:guardOK ops fr ⟨dst,op,ty,pos,af,g⟩ true)(hd:dstOK N dst)(h:YC P N ⟨dst,op,ty,pos,af,g⟩ fr (St w0 G0 G L) f args')
  (sp:CtrL P f args L1 pre (fun G L' v=>L'=L1/\post G v)) (e:args'=args) (hp:pre G) (h1:Lo.sub L1 L) (hsame:∀ i,i ∈ L1.map (·.1)->L1.get i=L.get i) (hz:w0.L.zero)
  (k:∀ v G',Mem.le G G'->post G' v->WL P N ops Q l (putFr dst v fr) (St w0 G0 G' L)):WL P N ops Q (⟨dst,op,ty,pos,af,g⟩::l) fr (St w0 G0 G L):=
 WL.yr hg (h.yrRO sp e hp h1 hsame hz) hd (fun v a w ha ⟨G',q1,q2,q3⟩=>k v G' q1 q3 a w ha q2)
theorem WL.callT{op:Op}{f:FuncId}{args args':Array Value}{L1:Lo}{pre:Mem->Prop}{post:Mem->Lo->Value->Prop}(hg:guardOK ops fr ⟨dst,op,ty,pos,af,g⟩ true)(hd:dstOK N dst)(h:YC P N ⟨dst,op,ty,pos,af,g⟩ fr (St w0 G0 G L) f args')
  (sp:CtrL P f args L1 pre post) (e:args'=args) (hp:pre G) (h1:Lo.sub L1 L) (hz:w0.L.zero)
  (k:∀ v G' L',Mem.le G G'->post G' L' v->WL P N ops Q l (putFr dst v fr) (St w0 G0 G' (L'++L.without (L1.map (·.1))))):WL P N ops Q (⟨dst,op,ty,pos,af,g⟩::l) fr (St w0 G0 G L):=by
 refine WL.yr (Φ:=fun v w'=>∃ G' L',Mem.le G G'/\St w0 G0 G' (L'++L.without (L1.map (·.1))) w'/\post G' L' v) hg (fun a w ha hs=>?_) hd (fun v a w ha ⟨G',L',q1,q2,q3⟩=>k v G' L' q1 q3 a w ha q2)
 rw[h a w ha hs]
 subst e
 refine (sp w G (hs.hp h1) hp).mono fun e' w' ⟨r,G',L',q1,q2,q3⟩=>⟨r,q1,G',L',q2.le,hs.ext (R:=L.without (L1.map (·.1))) q2 h1 (fun i x hx=>(Lo.Zcp hx).1) (fun i x hx=>?_) (fun i x y hi _ z hz'=>?_) (fun i x hx=>Lo.get_append _ _ i x hx),q3⟩
 .cases hg:L1.get i with
  | none=>rfl
  | some y=>exact absurd (Lo.Zf6 hg) (Lo.Zcp hx).2
 rw[Lo.ZeL hz hz']; exact Nat.zero_le _
theorem RowR.zero{v:Value}{xs:List α}{tk:Option Ow}{x:Ow}(h:RowR r e G v xs tk)(hx:tk=some x):x.m=0:=by
 subst hx
 obtain⟨_,_,_,_,_,h,_⟩:=h
 exact h
theorem Ctr.ro{f:FuncId}{args:Array Value}{pre:Mem->Prop}{post:Mem->Value->Prop}(h:Ctr P f args pre post):CtrL P f args [] pre (fun G L' v=>L'=[]/\post G v):=fun w G hi hp=>
 (h w G hi hp).mono fun e' w' ⟨r,G',L',q1,q2,q3⟩=>⟨r,G',[],q1,q2.nil,rfl,q3⟩
theorem SlR.eqv{p:Option Addr}{n cap:Nat}{xs:List α}(h:SlR r G (.slice p n cap) xs):Value.slice p n cap = .slice p xs.length cap:=by
 obtain⟨p',cap',cs,h1,_⟩:=h
 cases h1; rfl
theorem SlR.std{p:Option Addr}{n cap:Nat}{xs:List α}(h:SlR r G (.slice p n cap) xs):SlR r G (.slice p xs.length cap) xs:=by rw[<- h.eqv]; exact h
theorem RowR.eqv{p:Option Addr}{n cap:Nat}{xs:List α}{tk:Option Ow}(h:RowR r e G (.slice p n cap) xs tk):Value.slice p n cap = .slice p xs.length cap:=by
 obtain⟨p',cap',h1⟩:=h.form
 cases h1; rfl
theorem RowR.std{p:Option Addr}{n cap:Nat}{xs:List α}{tk:Option Ow}(h:RowR r e G (.slice p n cap) xs tk):RowR r e G (.slice p xs.length cap) xs tk:=by rw[<- h.eqv]; exact h
theorem Chain.callU{Bt:Asrt}{fs:List Bool}{l:List Oper}{det:Fr}{und:Und}{d:Nat}{op:Op}{f:FuncId}{args args':Array Value}{pre:Mem->Prop}{post:Mem->Value->Prop}(hg:∀ u,guardOK ops (undFr und u++(det++fr)) ⟨some d,op,ty,pos,af,g⟩ true)(h:∀ u S,YC P N ⟨some d,op,ty,pos,af,g⟩ (undFr und u++(det++fr)) S f args')(sp:Ctr P f args pre post)(e:args'=args)
  (hp:∀ G',Mem.le G G'->pre G') (hm:∀ v G₁ G₂,Mem.le G₁ G₂->post G₁ v->post G₂ v) (k:Chain P N Q fr w0 G0 G L ops Bt fs l det ((d,fun v g=>post g.m v)::und)):Chain P N Q fr w0 G0 G L ops Bt (false::fs) (⟨some d,op,ty,pos,af,g⟩::l) det und:=
 Chain.cund d _ rfl (fun v _ _ h=>hm v _ _ h.1) (fun u G' hle _=>OpOK.call (hg u) (h u _) sp e (hp G'.m hle.1)) k
theorem Chain.y0U{Bt:Asrt}{fs:List Bool}{l:List Oper}{det:Fr}{und:Und}{o:Oper}{c:Value}(hg:∀ u,guardOK ops (undFr und u++(det++fr)) o true)(h:∀ u G',Mem.le G G'->Y0 P N o (undFr und u++(det++fr)) (St w0 G0 G' L) c)(k:Chain P N Q fr w0 G0 G L ops Bt fs l (putFr o.dst c det) und):
  Chain P N Q fr w0 G0 G L ops Bt (false::fs) (o::l) det und:=.inl ⟨c,fun u G' hle _=>OpOK.y0 (hg u) (h u G'.m hle.1),k⟩
theorem Chain.skipU{Bt:Asrt}{fs:List Bool}{l:List Oper}{det:Fr}{und:Und}{o:Oper}(hg:∀ u,guardOK ops (undFr und u++(det++fr)) o false)(k:Chain P N Q fr w0 G0 G L ops Bt fs l (putFr o.dst undef det) und):Chain P N Q fr w0 G0 G L ops Bt (false::fs) (o::l) det und:=.inl ⟨undef,fun u _ _ _=>OpOK.skip (hg u),k⟩
theorem Chain.callD{Bt:Asrt}{fs:List Bool}{l:List Oper}{det:Fr}{und:Und}{o:Oper}{f:FuncId}{c:Value}(hg:∀ u,guardOK ops (undFr und u++(det++fr)) o true)
  (h:∀ u (G':Gx),Mem.le G G'.m->undLook ops o und u G'->∃ args args' pre,(∀ S,YC P N o (undFr und u++(det++fr)) S f args')/\Ctr P f args pre (fun _ r=>r=c)/\args'=args/\pre G'.m) (k:Chain P N Q fr w0 G0 G L ops Bt fs l (putFr o.dst c det) und) :
  Chain P N Q fr w0 G0 G L ops Bt (false::fs) (o::l) det und:=.inl ⟨c,fun u G' hle hu=>by
   obtain⟨args,args',pre,h1,h2,h3,h4⟩:=h u G' hle.1 hu
   exact OpOK.call0 (hg u) (h1 _) h2 h3 h4,k⟩
theorem Chain.tailU1{l:List Oper}{det:Fr}{d:Nat}{post:Mem->Value->Prop}(k:∀ v G',Mem.le G G'->post G' v->WL P N ops (NX Q) l ((d,v)::(det++fr)) (St w0 G0 G' L)):Chain P N Q fr w0 G0 G L ops (fun _=>True) [] l det [(d,fun v g=>post g.m v)]:=fun u g hle hu=>WLT.of fun a w ha hs=>
 k (u d) g.m hle.1 hu.1 a w ha hs.st
theorem Chain.tailU2{l:List Oper}{det:Fr}{d d':Nat}{post post':Mem->Value->Prop}(k:∀ v v' G',Mem.le G G'->post G' v->post' G' v'->WL P N ops (NX Q) l ((d,v)::(d',v')::(det++fr)) (St w0 G0 G' L)):Chain P N Q fr w0 G0 G L ops (fun _=>True) [] l det [(d,fun v g=>post g.m v),(d',fun v g=>post' g.m v)]:=fun u g hle hu=>WLT.of fun a w ha hs=>
 k (u d) (u d') g.m hle.1 hu.1 hu.2.1 a w ha hs.st
theorem Chain.tailU3{l:List Oper}{det:Fr}{d d' d'':Nat}{post post' post'':Mem->Value->Prop}(k:∀ v v' v'' G',Mem.le G G'->post G' v->post' G' v'->post'' G' v''->WL P N ops (NX Q) l ((d,v)::(d',v')::(d'',v'')::(det++fr)) (St w0 G0 G' L)):Chain P N Q fr w0 G0 G L ops (fun _=>True) [] l det [(d,fun v g=>post g.m v),(d',fun v g=>post' g.m v),(d'',fun v g=>post'' g.m v)]:=fun u g hle hu=>WLT.of fun a w ha hs=>
 k (u d) (u d') (u d'') g.m hle.1 hu.1 hu.2.1 hu.2.2.1 a w ha hs.st
end
end Go.EL
namespace Go.EL
open Go.IntKind (i8 i16 i32 i64 u8 u16 u32 u64)
open Go Go.RowKit
section
variable {α:Type}{enc:α->List Value}{sz:Nat}
theorem ZbT(hl:∀ x,(enc x).length=sz)(l:List α):(l.flatMap enc).length=l.length*sz:=by
 induction l with
 | nil=>simp
 | cons x l ih=>simp only[List.flatMap_cons,List.length_append,hl,ih,List.length_cons,Nat.add_mul]; omega
theorem ZnB(hl:∀ x,(enc x).length=sz)(l:List α)(i:Nat)(hi:i<l.length)(j:Nat)(hj:j<sz):(l.flatMap enc)[i*sz+j]? = (enc l[i])[j]?:=by
 induction l generalizing i with
 | nil=>simp at hi
 | cons x l ih=>
  cases i with
  | zero=>simp only[Nat.zero_mul,Nat.zero_add,List.flatMap_cons,List.getElem_cons_zero]; rw[List.getElem?_append_left (by rw[hl]; exact hj)]
  | succ i=>
   simp only[List.flatMap_cons,List.getElem_cons_succ]
   rw[List.getElem?_append_right (by rw[hl,Nat.add_mul]; omega),hl,show (i+1)*sz+j-sz=i*sz+j by rw[Nat.add_mul]; omega]
   exact ih i (by simpa using hi)
theorem ZhX[Inhabited α](hl:∀ x,(enc x).length=sz)(h0:0<sz)(l:List α):Go.Sort.flatK enc sz l.toArray=(l.flatMap enc).toArray:=by
 apply Array.ext
 .simp only[Go.Sort.size_flatK,List.size_toArray,ZbT hl]
 intro i h1 h2
 simp only[Go.Sort.size_flatK,List.size_toArray] at h1
 have hi:i / sz<l.length:=by rw[Nat.div_lt_iff_lt_mul h0]; exact h1
 have hj:i % sz<sz:=Nat.mod_lt _ h0
 have hf:=ZnB hl l (i / sz) hi (i % sz) hj
 rw[show i / sz*sz+i % sz=i by rw[Nat.mul_comm]; exact Nat.div_add_mod i sz] at hf
 have hg:=Go.Sort.get_flatK enc sz l.toArray i (by simpa using h1)
 rw[getElem!_pos _ i (by simpa using h1)] at hg
 rw[hg]
 have e1:l.toArray[i / sz]! = l[i / sz]:=by rw[getElem!_pos _ _ (by simpa using hi)]; simp
 rw[e1,getElem!_pos _ _ (by rw[hl]; exact hj)]
 have h2':i<(l.flatMap enc).length:=by simpa using h2
 have hj':i % sz<(enc l[i / sz]).length:=by rw[hl]; exact hj
 rw[List.getElem?_eq_getElem h2',List.getElem?_eq_getElem hj'] at hf
 simp only[Option.some.injEq] at hf
 simpa using hf.symm
end
theorem ZhU{w w':World}(h1:w'.os=w.os)(h2:w'.tape=w.tape)(h3:w'.output=w.output)(h4:w.drawn<=w'.drawn)(h5:w.heap.size<=w'.heap.size)(h6:∀ k,k<w.heap.size->w'.heap[k]? = w.heap[k]?):
  ∃ q os,w'=Go.Sort.grow (w.drewN q) os:=by
 refine⟨w'.drawn-w.drawn,w'.heap.extract w.heap.size w'.heap.size,?_⟩
 obtain⟨hp,tp,dr,o,ou⟩:=w'
 simp only at h1 h2 h3 h4 h5 h6
 subst h1 h2 h3
 simp only[Go.Sort.grow,World.drewN]
 congr 1
 .apply Array.ext_getElem?
  intro k
  rw[Array.getElem?_append]
  split
  .rename_i hk; exact h6 k hk
  rename_i hk
  rw[Array.getElem?_extract]
  split
  .congr 1; omega
  rw[Array.getElem?_eq_none]; omega
 omega
variable {P:Program}{ρ:Go.Shelf.Ren}
end Go.EL
namespace Go.EL
open Go.IntKind (i8 i16 i32 i64 u8 u16 u32 u64)
open Go Go.RowKit Go.Proofs Go.MapKept
structure Ky (P:Program) (kt:TypeId) (K:Type) where
 enc:K->Value
 ok:K->Prop
 inj:∀ {x y},enc x=enc y->x=y
 lit:∀ {x},ok x->∃ l,keyOf P kt (enc x)=some l
 keyed:Go.Maps.Keyed P kt
section
variable {K V:Type} [DecidableEq K]
def mput:List (K×V)->K->V->List (K×V)
 | [],k,x=>[(k,x)]
 | p::D,k,x=>if p.1=k then (k,x)::D else p::mput D k x
def mget:List (K×V)->K->Option V
 | [],_=>none
 | p::D,k=>if p.1=k then some p.2 else mget D k
theorem Zdq:∀ {D:List (K×V)}{k:K}{x:V},(∀ p ∈ D,p.1≠k)->mput D k x=D++[(k,x)]
 | [],_,_,_=>rfl
 | p::D,k,x,h=>by
  simp only[mput,if_neg (h p (by simp)),List.cons_append]
  rw[Zdq (fun q hq=>h q (by simp[hq]))]
theorem Zf7:∀ {D:List (K×V)}{k:K},(∀ p ∈ D,p.1≠k)->mget D k=none
 | [],_,_=>rfl
 | p::D,k,h=>by
  simp only[mget,if_neg (h p (by simp))]
  exact Zf7 (fun q hq=>h q (by simp[hq]))
end
section
variable {K V:Type}
def MapL(enc:K->Value)(Rv:K->Value->V->Prop):List MapEntry->List (K×V)->Prop
 | [],[]=>True
 | en::es,p::D=>en.key=enc p.1/\Rv p.1 en.val p.2/\MapL enc Rv es D
 | _,_=>False
variable {enc:K->Value}{Rv Rv':K->Value->V->Prop}
theorem MapL.length:∀ {es:List MapEntry}{D:List (K×V)},MapL enc Rv es D->es.length=D.length
 | [],[],_=>rfl
 | _::_,_::_,h=>by simp only[List.length_cons]; rw[MapL.length h.2.2]
 | [],_::_,h=>by cases h
 | _::_,[],h=>by cases h
theorem MapL.imp:∀ {es:List MapEntry}{D:List (K×V)},MapL enc Rv es D->(∀ p ∈ D,∀ v,Rv p.1 v p.2->Rv' p.1 v p.2)->MapL enc Rv' es D
 | [],[],_,_=>trivial
 | _::_,p::_,h,hi=>⟨h.1,hi p (by simp) _ h.2.1,MapL.imp h.2.2 (fun q hq=>hi q (by simp[hq]))⟩
 | [],_::_,h,_=>by cases h
 | _::_,[],h,_=>by cases h
theorem MapL.key:∀ {es:List MapEntry}{D:List (K×V)},MapL enc Rv es D->∀ en ∈ es,∃ p ∈ D,en.key=enc p.1/\Rv p.1 en.val p.2
 | [],[],_,en,h=>by cases h
 | e::_,p::_,h,en,hen=>by
  rcases List.mem_cons.1 hen with rfl|hen
  .exact⟨p,by simp,h.1,h.2.1⟩
  obtain⟨q,hq,r⟩:=MapL.key h.2.2 en hen
  exact⟨q,by simp[hq],r⟩
 | [],_::_,h,_,_=>by cases h
 | _::_,[],h,_,_=>by cases h
theorem MapL.mem:∀ {es:List MapEntry}{D:List (K×V)},MapL enc Rv es D->∀ p ∈ D,∃ en ∈ es,en.key=enc p.1
 | [],[],_,p,h=>by cases h
 | e::_,q::_,h,p,hp=>by
  rcases List.mem_cons.1 hp with rfl|hp
  .exact⟨e,by simp,h.1⟩
  obtain⟨en,hen,r⟩:=MapL.mem h.2.2 p hp
  exact⟨en,by simp[hen],r⟩
 | [],_::_,h,_,_=>by cases h
 | _::_,[],h,_,_=>by cases h
theorem MapL.push:∀ {es:List MapEntry}{D:List (K×V)}{en:MapEntry}{k:K}{x:V},MapL enc Rv es D->en.key=enc k->Rv k en.val x->MapL enc Rv (es++[en]) (D++[(k,x)])
 | [],[],_,_,_,_,h1,h2=>⟨h1,h2,trivial⟩
 | _::_,_::_,_,_,_,h,h1,h2=>⟨h.1,h.2.1,MapL.push h.2.2 h1 h2⟩
 | [],_::_,_,_,_,h,_,_=>by cases h
 | _::_,[],_,_,_,h,_,_=>by cases h
theorem MapL.set[DecidableEq K](hinj:∀ {x y},enc x=enc y->x=y){k:K}{val:Value}{x:V}(hv:Rv' k val x):∀ {es:List MapEntry}{D:List (K×V)}{j:Nat}{e0:MapEntry},MapL enc Rv es D->es.Pairwise (fun a b=>a.key≠b.key)->
  es[j]? = some e0->e0.key=enc k->(∀ p ∈ D,p.1≠k->∀ v,Rv p.1 v p.2->Rv' p.1 v p.2)->MapL enc Rv' (es.set j { e0 with key:=enc k,val:=val }) (mput D k x)
 | [],_,j,e0,_,_,h,_,_=>by simp at h
 | e::es,[],_,_,h,_,_,_,_=>by cases h
 | e::es,p::D,0,e0,h,hp,he,hk,hi=>by
  simp only[List.getElem?_cons_zero,Option.some.injEq] at he
  subst he
  have hpk:p.1=k:=hinj (h.1.symm.trans hk)
  simp only[mput,if_pos hpk,List.set_cons_zero]
  refine⟨rfl,hv,h.2.2.imp fun q hq v hv'=>hi q (by simp[hq]) (fun e'=>?_) v hv'⟩
  obtain⟨en,hen,hek⟩:=MapL.mem h.2.2 q hq
  exact (List.pairwise_cons.1 hp).1 en hen (by rw[hk,hek,e'])
 | e::es,p::D,j+1,e0,h,hp,he,hk,hi=>by
  simp only[List.getElem?_cons_succ] at he
  have hpk:p.1≠k:=fun e'=>(List.pairwise_cons.1 hp).1 e0 (List.mem_of_getElem? he) (by rw[hk,h.1,e'])
  simp only[mput,if_neg hpk,List.set_cons_succ]
  exact⟨h.1,hi p (by simp) hpk _ h.2.1,MapL.set hinj hv h.2.2 (List.pairwise_cons.1 hp).2 he hk (fun q hq=>hi q (by simp[hq]))⟩
theorem MapL.get[DecidableEq K](hinj:∀ {x y},enc x=enc y->x=y){k:K}:∀ {es:List MapEntry}{D:List (K×V)}{j:Nat}{e0:MapEntry},MapL enc Rv es D->es.Pairwise (fun a b=>a.key≠b.key)->
  es[j]? = some e0->e0.key=enc k->∃ x,mget D k=some x/\Rv k e0.val x
 | [],_,j,e0,_,_,h,_=>by simp at h
 | e::es,[],_,_,h,_,_,_=>by cases h
 | e::es,p::D,0,e0,h,hp,he,hk=>by
  simp only[List.getElem?_cons_zero,Option.some.injEq] at he
  subst he
  have hpk:p.1=k:=hinj (h.1.symm.trans hk)
  refine⟨p.2,by simp[mget,hpk],?_⟩
  rw[<- hpk]; exact h.2.1
 | e::es,p::D,j+1,e0,h,hp,he,hk=>by
  simp only[List.getElem?_cons_succ] at he
  have hpk:p.1≠k:=fun e'=>(List.pairwise_cons.1 hp).1 e0 (List.mem_of_getElem? he) (by rw[hk,h.1,e'])
  simp only[mget,if_neg hpk]
  exact MapL.get hinj h.2.2 (List.pairwise_cons.1 hp).2 he hk
end
section
variable {P:Program}{kt:TypeId}{K V:Type} [DecidableEq K]
def MapR(ky:Ky P kt K)(Rv:K->Value->V->Prop)(v:Value)(D:List (K×V))(tk:Option Ow):Prop:=
 ∃ b es clock,v = .map (some b)/\tk=some ⟨b,.map es clock,0⟩/\Stamped es clock/\(∀ p ∈ D,ky.ok p.1)/\MapL ky.enc Rv es.toList D/\D.length<=small
variable {ky:Ky P kt K}{Rv Rv':K->Value->V->Prop}
omit [DecidableEq K] in
theorem MapR.imp{v:Value}{D:List (K×V)}{tk:Option Ow}(h:MapR ky Rv v D tk)(hi:∀ p ∈ D,∀ v,Rv p.1 v p.2->Rv' p.1 v p.2):MapR ky Rv' v D tk:=by
 obtain⟨b,es,clock,h1,h2,h3,h4,h5,h6⟩:=h
 exact⟨b,es,clock,h1,h2,h3,h4,h5.imp hi,h6⟩
omit [DecidableEq K] in
theorem MapR.empty(b:Nat):MapR ky Rv (.map (some b)) [] (some ⟨b,.map #[] 0,0⟩):=⟨b,#[],0,rfl,rfl,stamped_empty 0,by simp,trivial,by simp[small]⟩
omit [DecidableEq K] in
theorem MapR.zero{v:Value}{D:List (K×V)}{tk:Option Ow}{x:Ow}(h:MapR ky Rv v D tk)(hx:tk=some x):x.m=0:=by
 obtain⟨b,es,clock,h1,h2,_⟩:=h
 rw[h2] at hx; cases hx; rfl
variable {w0:Bs}{G0 G:Mem}{L:Lo}
theorem Zp0{t e:TypeId}(ht:P.underlying t=some (.map kt e)){v:Value}{D:List (K×V)}{tk:Option Ow}(h:MapR ky Rv v D tk){key:Nat}(hid:L.get key=tk){k:K}{val:Value}{x:V}(hk:ky.ok k)(hv:Rv' k val x)(hi:∀ p ∈ D,p.1≠k->∀ v,Rv p.1 v p.2->Rv' p.1 v p.2)
  (hsm:(mput D k x).length<=small) (w:World) (hs:St w0 G0 G L w):∃ tk' w',(Instr.mapUpdate t v (ky.enc k) val).run P w = .ok () w'/\MapR ky Rv' v (mput D k x) tk'/\St w0 G0 G ((key,tk')::L) w':=by
 obtain⟨b,es,clock,rfl,rfl,h3,h4,h5,h6⟩:=h
 obtain⟨l,hl⟩:=ky.lit hk
 have hb:=(hs.loc key _ hid).1
 dsimp only at hb
 have hbs:=(Array.getElem?_eq_some_iff.1 hb).1
 have hkeys:∀ en ∈ es.toList,∃ l,keyOf P kt en.key=some l:=fun en hen=>by
  obtain⟨p,hp,hpk,_⟩:=h5.key en hen
  rw[hpk]; exact ky.lit (h4 p hp)
 have hupd:∀ o',St w0 G0 G ((key,some ⟨b,o',0⟩)::L) { w with heap:=w.heap.setIfInBounds b o' }:=fun o'=>
  hs.upd hid (by simp[hbs]) (Nat.le_refl _) (fun k' _ hk'=>absurd hk' (Nat.not_lt_zero k')) (fun k' hk'=>by simp only[Array.getElem?_setIfInBounds]; rw[if_neg (fun e'=>hk' e'.symm)]) rfl rfl rfl rfl (by simp)
 rcases ky.keyed.find w hl es.toList hkeys with ⟨h1,h2⟩|⟨j,e0,h1,h2,h3'⟩
 .have hnew:∀ p ∈ D,p.1≠k:=fun p hp e'=>by
   obtain⟨en,hen,hek⟩:=h5.mem p hp
   exact h2 en hen (by rw[hek,e'])
  refine⟨some ⟨b,.map (es.push ⟨ky.enc k,val,clock⟩) (clock+1),0⟩,_,?_,⟨b,_,_,rfl,rfl,stamped_push h3 h2,?_,?_,hsm⟩,hupd _⟩
  .simp[Instr.mapUpdate,run_underlying ht,MapKept.run_getObj_map hb,ky.keyed.check w false hl,h1,MapKept.run_setObj_map _ hb,Result.andThen]
  .rw[Zdq hnew]
   intro p hp
   rcases List.mem_append.1 hp with hp|hp
   .exact h4 p hp
   simp only[List.mem_singleton] at hp; subst hp; exact hk
  rw[Zdq hnew,Array.toList_push]
  exact (h5.imp fun p hp v hv'=>hi p hp (hnew p hp) v hv').push rfl hv
 have hj:es[j]? = some e0:=by rw[<- Array.getElem?_toList]; exact h2
 have hkeyf:∀ e':MapEntry,es[j]? = some e'->({ e' with key:=ky.enc k,val:=val }:MapEntry).key=e'.key:=fun e' he'=>by rw[hj] at he'; cases he'; exact h3'.symm
 have hpw:=((stamped_iff es clock).1 h3).2.2
 have hlist:(es.modify j fun e'=>{ e' with key:=ky.enc k,val:=val }).toList=es.toList.set j { e0 with key:=ky.enc k,val:=val }:=by
  apply List.ext_getElem?
  intro i
  rw[Array.getElem?_toList,Array.getElem?_modify,List.getElem?_set]
  by_cases hij:j=i
  .subst hij
   rw[if_pos rfl,if_pos rfl,hj,if_pos (List.getElem?_eq_some_iff.1 h2).1]; rfl
  rw[if_neg hij,if_neg hij,Array.getElem?_toList]
 refine⟨some ⟨b,.map (es.modify j fun e'=>{ e' with key:=ky.enc k,val:=val }) clock,0⟩,_,?_,⟨b,_,_,rfl,rfl,stamped_modify h3 _ _ (fun _ _=>rfl) (fun e' _ he'=>hkeyf e' he'),?_,?_,hsm⟩,hupd _⟩
 .simp[Instr.mapUpdate,run_underlying ht,MapKept.run_getObj_map hb,ky.keyed.check w false hl,h1,hj,h3',ky.keyed.stays w hl,MapKept.run_setObj_map _ hb,Result.andThen]
 .have:∀ (D:List (K×V)),(∀ p ∈ D,ky.ok p.1)->∀ p ∈ mput D k x,ky.ok p.1:=by
   intro D
   induction D with
   | nil=>intro _ p hp; simp only[mput,List.mem_singleton] at hp; subst hp; exact hk
   | cons q D ih=>
    intro hD p hp
    simp only[mput] at hp
    split at hp
    .rcases List.mem_cons.1 hp with rfl|hp
     .exact hk
     exact hD p (by simp[hp])
    rcases List.mem_cons.1 hp with rfl|hp
    .exact hD p (by simp)
    exact ih (fun p hp=>hD p (by simp[hp])) p hp
  exact this D h4
 rw[hlist]
 exact MapL.set (fun h=>ky.inj h) hv h5 hpw h2 h3' hi
theorem run_get(c:Bool){t e:TypeId}(ht:P.underlying t=some (.map kt e)){z:Value}(hz:∀ w,(zeroValue e).run P w = .ok z w){v:Value}{D:List (K×V)}{tk:Option Ow}(h:MapR ky Rv v D tk){key:Nat}(hid:L.get key=tk){k:K}(hk:ky.ok k)(w:World)(hs:St w0 G0 G L w):
  ∃ val,(Instr.lookup t v (ky.enc k) c).run P w = .ok (if c then .tuple #[val,.bool (mget D k).isSome] else val) w/\((mget D k=none/\val=z)\/∃ x,mget D k=some x/\Rv k val x):=by
 obtain⟨b,es,clock,rfl,rfl,h3,h4,h5,h6⟩:=h
 obtain⟨l,hl⟩:=ky.lit hk
 have hb:=(hs.loc key _ hid).1
 dsimp only at hb
 have hkeys:∀ en ∈ es.toList,∃ l,keyOf P kt en.key=some l:=fun en hen=>by
  obtain⟨p,hp,hpk,_⟩:=h5.key en hen
  rw[hpk]; exact ky.lit (h4 p hp)
 have hpw:=((stamped_iff es clock).1 h3).2.2
 rcases ky.keyed.find w hl es.toList hkeys with ⟨h1,h2⟩|⟨j,e0,h1,h2,h3'⟩
 .have hnew:∀ p ∈ D,p.1≠k:=fun p hp e'=>by
   obtain⟨en,hen,hek⟩:=h5.mem p hp
   exact h2 en hen (by rw[hek,e'])
  have hm:=Zf7 hnew
  refine⟨z,?_,.inl ⟨hm,rfl⟩⟩
  rw[hm]
  simp[Instr.lookup,run_underlying ht,MapKept.run_getObj_map hb,ky.keyed.check w _ hl,h1,hz,Result.andThen]
 obtain⟨x,hx,hrx⟩:=MapL.get (fun h=>ky.inj h) h5 hpw h2 h3'
 refine⟨e0.val,?_,.inr ⟨x,hx,hrx⟩⟩
 rw[hx]
 simp[Instr.lookup,run_underlying ht,MapKept.run_getObj_map hb,ky.keyed.check w _ hl,h1,Result.andThen]
end
section
variable {P:Program}{kt:TypeId}{K V:Type} [DecidableEq K] {ky:Ky P kt K}{Rv Rv':K->Value->V->Prop}
variable {N:Nat}{Q:Post}{fr:Fr}{S:Asrt}{ops:Array Oper}{l:List Oper}{dst:Option Nat}{ty:TypeId}{pos:String}{af:Array Edge}{g:Option (Nat×Bool)}
variable {w0:Bs}{G0 G:Mem}{L:Lo}
omit [DecidableEq K] in
theorem WL.makeMap{t:TypeId}(key:Nat)(hg:guardOK ops fr ⟨dst,.makeMap t none,ty,pos,af,g⟩ true)(hd:dstOK N dst)
  (k:∀ b tk,MapR ky Rv (.map (some b)) [] tk->WL P N ops Q l (putFr dst (.map (some b)) fr) (St w0 G0 G ((key,tk)::L))):WL P N ops Q (⟨dst,.makeMap t none,ty,pos,af,g⟩::l) fr (St w0 G0 G L):=by
 refine WL.yr (Φ:=fun v w=>∃ b,v = .map (some b)/\St w0 G0 G ((key,some ⟨b,.map #[] 0,0⟩)::L) w) hg (fun a w ha hs=>?_) hd (fun v a w ha ⟨b,h1,h2⟩=>by subst h1; exact k b _ (MapR.empty b) a w ha h2)
 have:(execOp a.eval ⟨dst,.makeMap t none,ty,pos,af,g⟩).run P w = .ok (.value (.map (some w.heap.size))) (w.alloc (.map #[] 0)):=by
  simp[execOp,run_makeMap]
 rw[this]
 exact⟨_,rfl,hs.push key _⟩
theorem WL.mapPut{t e:TypeId}{m x y:Operand}{v val:Value}{D:List (K×V)}{tk:Option Ow}{k:K}{z:V}(key:Nat)(hg:guardOK ops fr ⟨none,.mapUpdate t m x y,ty,pos,af,g⟩ true)(ht:P.underlying t=some (.map kt e))(h:MapR ky Rv v D tk)(hid:L.get key=tk)
  (hm:fr.ev m=some v) (hx:fr.ev x=some (ky.enc k)) (hy:fr.ev y=some val) (hk:ky.ok k) (hv:Rv' k val z) (hi:∀ p ∈ D,p.1≠k->∀ v,Rv p.1 v p.2->Rv' p.1 v p.2) (hsm:(mput D k z).length<=small)
  (kk:∀ tk',MapR ky Rv' v (mput D k z) tk'->WL P N ops Q l fr (St w0 G0 G ((key,tk')::L))):WL P N ops Q (⟨none,.mapUpdate t m x y,ty,pos,af,g⟩::l) fr (St w0 G0 G L):=by
 refine WL.yr (Φ:=fun _ w=>∃ tk',MapR ky Rv' v (mput D k z) tk'/\St w0 G0 G ((key,tk')::L) w) hg (fun a w ha hs=>?_) trivial (fun _ a w ha ⟨tk',h1,h2⟩=>kk tk' h1 a w ha h2)
 obtain⟨tk',w',h1,h2,h3⟩:=Zp0 ht h hid hk hv hi hsm w hs
 have:(execOp a.eval ⟨none,.mapUpdate t m x y,ty,pos,af,g⟩).run P w = .ok .skip w'\/(execOp a.eval ⟨none,.mapUpdate t m x y,ty,pos,af,g⟩).run P w = .ok (.value undef) w':=by
  simp[execOp,ha.ev hm,ha.ev hx,ha.ev hy,h1]
 rcases this with this|this <;> rw[this] <;> exact⟨tk',h2,h3⟩
end
end Go.EL

