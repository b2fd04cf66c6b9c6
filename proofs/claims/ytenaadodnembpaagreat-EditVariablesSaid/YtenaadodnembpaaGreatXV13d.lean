/- The law EditVariables holds for every input: a part of its proof (what the code does, plain models, and what they return). No condition. -/
import Derived.Test.YtenaadodnembpaaGreatXV13c
import Derived.Test.YtenaadodnembpaaGreatXV13b
import Derived.Shelf.SlGeneric
import Derived.Shelf.SlLaysF0
import Derived.Ground.SlsfProg
import Derived.Test.YtenaadodnembpaaGreatProg
set_option linter.unusedVariables false
set_option linter.unusedSimpArgs false
namespace Go.EL
open Go Go.RowKit
theorem Zl1{l:List Za}(hl:l.length≤100)(hi:l.Pairwise fun a b=>a.id<b.id){id:Int}(hnew:∀ q ∈ l,q.id≠id):
  ∃ k:Nat,k≤l.length∧(Zi l id).Ret ((k:Int),false)∧l.filter (fun q=>decide (q.id<id))=l.take k∧l.filter (fun q=>decide (id<q.id))=l.drop k:=by
 have hs:=Zl2 hl hi hnew
 have huniq:∀ r:Int×Bool,(∃ k:Nat,k≤l.length∧r=((k:Int),false)∧(∀ m (hm:m<l.length),m<k→l[m].id<id)∧∀ m (hm:m<l.length),k≤m→id<l[m].id)→r=(((l.filter fun q:Za=>decide (q.id<id)).length:Int),false):=by
  rintro r ⟨k,h1,rfl,h2,h3⟩
  have:=(place h1 h2 h3).1
  rw[this,List.length_take,Nat.min_eq_left h1]
 have hret:=(Zi l id).mono huniq hs
 refine⟨_,List.length_filter_le (fun q:Za=>decide (q.id<id)) l,hret,?_⟩
 have hpw:=List.pairwise_iff_getElem.1 hi
 have key:∀ (l:List Za),l.Pairwise (fun a b=>a.id<b.id)→(∀ q ∈ l,q.id≠id)→l.filter (fun q=>decide (q.id<id))=l.take (l.filter fun q:Za=>decide (q.id<id)).length∧l.filter (fun q=>decide (id<q.id))=l.drop (l.filter fun q:Za=>decide (q.id<id)).length:=by
  intro l
  induction l with
  | nil=>intro _ _; exact⟨rfl,rfl⟩
  | cons x xs ih=>
   intro hp hn
   obtain⟨p1,p2⟩:=List.pairwise_cons.1 hp
   obtain⟨i1,i2⟩:=ih p2 fun q hq=>hn q (by simp[hq])
   have hx:=hn x (by simp)
   by_cases hlt:x.id<id
   ·rw[List.filter_cons,if_pos (decide_eq_true hlt),List.filter_cons,if_neg (by simp; omega)]
    rw[List.length_cons,List.take_succ_cons,List.drop_succ_cons]
    exact⟨congrArg (x::·) i1,i2⟩
   ·have h0:(x::xs).filter (fun q=>decide (q.id<id))=[]:=filter_none fun q hq=>decide_eq_false (by
     rcases List.mem_cons.1 hq with rfl|hq
     ·exact hlt
     ·have:=p1 q hq; omega)
    have h1:(x::xs).filter (fun q=>decide (id<q.id))=x::xs:=filter_all fun q hq=>decide_eq_true (by
     rcases List.mem_cons.1 hq with rfl|hq
     ·omega
     ·have:=p1 q hq; omega)
    rw[h0,h1]
    exact⟨rfl,rfl⟩
 exact key l hi hnew
theorem ZhN{l:List Za}(hl:l.length≤100)(hi:l.Pairwise fun a b=>a.id<b.id){q:Za}(hnew:∀ p ∈ l,p.id≠q.id):
  ∃ k:Int×Bool,(Zi l q.id).Ret k∧(ZT l k.1 [q]).Ret (putL l q):=by
 obtain⟨k,h1,h2,h3,h4⟩:=Zl1 hl hi hnew
 refine⟨_,h2,⟨⟨by omega,by omega⟩,rfl,by omega⟩,?_⟩
 show _=_
 unfold putL
 rw[h3,h4]
 simp
def insS(s:Zb)(q:Za)(neq:Bool):Zb:=if neq=true then ⟨s.vars,s.eqs,putL s.neqs q,s.next⟩ else ⟨s.vars,putL s.eqs q,s.neqs,s.next⟩
theorem ZiC{s:Zb}{q:Za}{neq:Bool}(hl:(if neq=true then s.neqs else s.eqs).length≤100)(hi:(if neq=true then s.neqs else s.eqs).Pairwise fun a b=>a.id<b.id)(hnew:∀ p ∈ (if neq=true then s.neqs else s.eqs),p.id≠q.id):(Zdo s q neq).Ret (insS s q neq):=by
 cases neq with
 | true=>
  obtain⟨k,h1,h2⟩:=ZhN hl hi hnew
  exact⟨s.neqs,rfl,s.neqs,ZdS hl,k,h1,putL s.neqs q,h2,rfl⟩
 | false=>
  obtain⟨k,h1,h2⟩:=ZhN hl hi hnew
  exact⟨s.eqs,rfl,s.eqs,ZdS hl,k,h1,putL s.eqs q,h2,rfl⟩
end Go.EL

namespace Go.EL
open Go Go.RowKit
theorem Zap{l:List Za}{id:Int}{q:Za}(h:findQ l id=some q):q ∈ l∧q.id=id:=by
 unfold findQ at h
 exact⟨List.mem_of_find?_eq_some h,by have:=List.find?_some h; simpa using this⟩
theorem Zga{l:List Za}{id:Int}(h:findQ l id=none):∀ q ∈ l,q.id≠id:=fun q hq e=>by
 unfold findQ at h
 have:=List.find?_eq_none.1 h q hq
 simp at this; exact this e
theorem ZfJ(s:Zb)(id:Int):hasB s id=true↔(∃ q ∈ s.eqs,q.id=id)∨∃ q ∈ s.neqs,q.id=id:=by
 unfold hasB
 rw[ZcF,ZcF,Bool.or_eq_true,Option.isSome_iff_exists,Option.isSome_iff_exists]
 constructor
 ·rintro (⟨q,h⟩|⟨q,h⟩)
  ·exact .inl ⟨q,Zap h⟩
  ·exact .inr ⟨q,Zap h⟩
 ·rintro (⟨q,h1,h2⟩|⟨q,h1,h2⟩)
  ·cases h:findQ s.eqs id with
   | some q=>exact .inl ⟨q,rfl⟩
   | none=>exact absurd h2 (Zga h q h1)
  ·cases h:findQ s.neqs id with
   | some q=>exact .inr ⟨q,rfl⟩
   | none=>exact absurd h2 (Zga h q h1)
theorem Znw{s:Zb}(h:Good s){id:Int}(hid:id≤0):hasB s id=false:=by
 cases hb:hasB s id with
 | false=>rfl
 | true=>
  rcases (ZfJ s id).1 hb with ⟨q,h1,h2⟩|⟨q,h1,h2⟩
  ·have:=h.eqs.ids q h1; omega
  ·have:=h.neqs.ids q h1; omega
theorem Znv{s:Zb}(h:Good s){id:Int}(hid:s.next≤id):hasB s id=false:=by
 cases hb:hasB s id with
 | false=>rfl
 | true=>
  rcases (ZfJ s id).1 hb with ⟨q,h1,h2⟩|⟨q,h1,h2⟩
  ·have:=h.eqs.ids q h1; omega
  ·have:=h.neqs.ids q h1; omega
def numE(s:Zb)(e:Zd):Int:=if e.id=0 then s.next else e.id
def addE(s:Zb)(e:Zd):Zb:=
 ⟨s.vars,if e.neq=true then s.eqs else putL s.eqs ⟨numE s e,e.p⟩,if e.neq=true then putL s.neqs ⟨numE s e,e.p⟩ else s.neqs,if s.next<numE s e+1 then numE s e+1 else s.next⟩
theorem check5{s:Zb}{e:Zd}(hk:e.kind=5)(hc:checkF s e=0):0≤e.id∧e.id≤999999∧(0<e.id→hasB s e.id=false)∧(e.neq=false→s.eqs.length<12)∧(e.neq=true→s.neqs.length<12)∧(e.id=0→s.next<1000000)∧fitB e.p (s.vars.length:Int)=true:=by
 unfold checkF at hc
 rw[if_neg (by omega),if_neg (by omega),if_neg (by omega),if_neg (by omega),if_pos hk] at hc
 unfold addC at hc
 by_cases c1:e.id<0∨999999<e.id∨(0<e.id∧hasB s e.id=true)
 ·rw[if_pos c1] at hc; exact absurd hc (by decide)
 ·rw[if_neg c1] at hc
  by_cases c2:(e.neq=false∧12≤s.eqs.length)∨(e.neq=true∧12≤s.neqs.length)∨(e.id=0∧1000000≤s.next)
  ·rw[if_pos c2] at hc; exact absurd hc (by decide)
  ·rw[if_neg c2] at hc
   by_cases c3:fitB e.p (s.vars.length:Int)=true
   ·refine⟨Int.not_lt.1 fun h=>c1 (.inl h),Int.not_lt.1 fun h=>c1 (.inr (.inl h)),fun h=>?_,fun h=>Nat.not_le.1 fun h2=>c2 (.inl ⟨h,h2⟩),fun h=>Nat.not_le.1 fun h2=>c2 (.inr (.inl ⟨h,h2⟩)),fun h=>Int.not_le.1 fun h2=>c2 (.inr (.inr ⟨h,h2⟩)),c3⟩
    cases hb:hasB s e.id with
    | false=>rfl
    | true=>exact absurd (.inr (.inr ⟨h,hb⟩)) c1
   ·rw[if_neg c3] at hc; exact absurd hc (by decide)
theorem ZlA{s:Zb}(h:Good s){e:Zd}(h0:0≤e.id)(h1:0<e.id→hasB s e.id=false):hasB s (numE s e)=false:=by
 unfold numE
 by_cases hz:e.id=0
 ·rw[if_pos hz]; exact Znv h (Int.le_refl _)
 ·rw[if_neg hz]; exact h1 (by omega)
theorem Zn0{s:Zb}(h:Good s){e:Zd}(hp:PolOk e.p)(hk:e.kind=5):(Zh5 s e).Ret (if checkF s e=0 then (addE s e,0) else (zeroS,checkF s e)):=by
 have he:=h.eqs.len
 have hn:=h.neqs.len
 have h1:(Zav e s).Ret (decide (0≤e.id∧e.id<1000000∧hasB s e.id=false)):=by
  unfold Zav
  by_cases c1:0≤e.id
  ·rw[if_pos c1]
   by_cases c2:e.id<1000000
   ·rw[if_pos c2]
    refine⟨_,rfl,_,Zdq h e.id,?_⟩
    show (!hasB s e.id)=_
    cases hb:hasB s e.id with
    | false=>rw[decide_eq_true ⟨c1,c2,rfl⟩]; rfl
    | true=>rw[decide_eq_false (fun k=>absurd k.2.2 (by decide))]; rfl
   ·rw[if_neg c2]
    exact (decide_eq_false fun k=>c2 k.2.1).symm
  ·rw[if_neg c1]
   exact (decide_eq_false fun k=>c1 k.1).symm
 have h2:(ZaM s e).Ret (decide ((if e.neq=true then s.neqs else s.eqs).length<12∧(e.id=0→s.next<1000000))):=by
  refine⟨if e.neq=true then s.neqs else s.eqs,?_,?_⟩
  ·unfold Zci
   cases e.neq <;> rfl
  ·rw[Comp.Ze]
   by_cases c1:(if e.neq=true then s.neqs else s.eqs).length<12
   ·rw[if_pos (by omega),Comp.Ze]
    by_cases c2:e.id=0
    ·rw[if_pos c2]
     exact decide_eq_decide.2 ⟨fun k=>⟨c1,fun _=>by omega⟩,fun k=>by have:=k.2 c2; omega⟩
    ·rw[if_neg c2]
     exact (decide_eq_true ⟨c1,fun k=>absurd k c2⟩).symm
   ·rw[if_neg (by omega)]
    exact (decide_eq_false fun k=>c1 k.1).symm
 have hfirst:(Zy [fun _=>Zk (fun _=>Zav e s) 332,fun _=>Zk (fun _=>ZaM s e) 2,fun _=>Zk (fun _=>Zaj e.p s) 320]).Ret (checkF s e):=by
  have hh:=first3 (a:=fun _=>Zk (fun _=>Zav e s) 332) (b:=fun _=>Zk (fun _=>ZaM s e) 2) (c:=fun _=>Zk (fun _=>Zaj e.p s) 320) (ZM h1 332) (fun _=>ZM h2 2) (fun _ _=>ZM (Zkx (s:=s) hp) 320)
  have e1:checkF s e=addC s e:=by
   unfold checkF
   rw[if_neg (by omega),if_neg (by omega),if_neg (by omega),if_neg (by omega),if_pos hk]
  rw[e1]
  refine Eq.mp (congrArg _ ?_) hh
  unfold addC
  by_cases c1:0≤e.id∧e.id<1000000∧hasB s e.id=false
  ·rw[decide_eq_true c1,if_neg (show ¬ (e.id<0∨999999<e.id∨(0<e.id∧hasB s e.id=true)) from fun k=>by
    rcases k with k|k|k
    ·omega
    ·omega
    ·rw[c1.2.2] at k; exact absurd k.2 (by decide))]
   by_cases c2:(if e.neq=true then s.neqs else s.eqs).length<12∧(e.id=0→s.next<1000000)
   ·rw[decide_eq_true c2,if_neg (show ¬ ((e.neq=false∧12≤s.eqs.length)∨(e.neq=true∧12≤s.neqs.length)∨(e.id=0∧1000000≤s.next)) from fun k=>by
     rcases k with k|k|k
     ·have:=c2.1; rw[k.1,if_neg (by decide)] at this; omega
     ·have:=c2.1; rw[if_pos k.1] at this; omega
     ·have:=c2.2 k.1; omega)]
    rfl
   ·rw[decide_eq_false c2,if_pos (show (e.neq=false∧12≤s.eqs.length)∨(e.neq=true∧12≤s.neqs.length)∨(e.id=0∧1000000≤s.next) from by
     by_cases k:(if e.neq=true then s.neqs else s.eqs).length<12
     ·refine .inr (.inr ?_)
      by_cases kz:e.id=0
      ·exact⟨kz,Int.not_lt.1 fun kk=>c2 ⟨k,fun _=>kk⟩⟩
      ·exact absurd ⟨k,fun z=>absurd z kz⟩ c2
     ·cases hb:e.neq with
      | false=>rw[hb,if_neg (by decide)] at k; exact .inl ⟨rfl,by omega⟩
      | true=>rw[hb,if_pos rfl] at k; exact .inr (.inl ⟨rfl,by omega⟩))]
    rfl
  ·rw[decide_eq_false c1,if_pos (show e.id<0∨999999<e.id∨(0<e.id∧hasB s e.id=true) from by
    by_cases k1:e.id<0
    ·exact .inl k1
    ·by_cases k2:999999<e.id
     ·exact .inr (.inl k2)
     ·refine .inr (.inr ?_)
      cases hb:hasB s e.id with
      | false=>exact absurd ⟨by omega,by omega,hb⟩ c1
      | true=>exact⟨Int.not_le.1 fun k=>(by rw[Znw h k] at hb; cases hb),rfl⟩)]
   rfl
 refine⟨_,rfl,_,rfl,_,rfl,_,rfl,_,hfirst,?_⟩
 by_cases hc:checkF s e=0
 ·obtain⟨k1,k2,k3,k4,k5,k6,k7⟩:=check5 hk hc
  have hnew:=ZlA h k1 k3
  rw[if_pos hc,Comp.Ze,if_neg (fun hh=>hh hc)]
  refine⟨numE s e,?_,?_⟩
  ·unfold Zb0 numE
   by_cases hz:e.id=0
   ·rw[if_pos hz,if_pos hz]; rfl
   ·rw[if_neg hz,if_neg hz]; rfl
  ·have hno:∀ q ∈ (if e.neq=true then s.neqs else s.eqs),q.id≠numE s e:=fun q hq e'=>by
    have:hasB s (numE s e)=true:=(ZfJ s _).2 (by
     cases hb:e.neq with
     | false=>rw[hb,if_neg (by decide)] at hq; exact .inl ⟨q,hq,e'⟩
     | true=>rw[hb,if_pos rfl] at hq; exact .inr ⟨q,hq,e'⟩)
    rw[hnew] at this; cases this
   have hb:numE s e<1000000∧0≤numE s e:=by
    have:=h.next
    unfold numE
    split
    ·rename_i hz; have:=k6 hz; omega
    ·omega
   have hlen:(if e.neq=true then s.neqs else s.eqs).length≤100:=by split <;> omega
   have hinc:(if e.neq=true then s.neqs else s.eqs).Pairwise fun a b=>a.id<b.id:=by
    split
    ·exact h.neqs.inc
    ·exact h.eqs.inc
   refine⟨insS s ⟨numE s e,e.p⟩ e.neq,ZiC hlen hinc hno,?_⟩
   show _=_
   rw[wrap64 (by omega)]
   unfold addE insS
   cases e.neq <;> rfl
 ·rw[if_neg hc,Comp.Ze,if_pos hc]
  rfl
end Go.EL

namespace Go.EL
open Go Go.RowKit
theorem first1{a:Unit→Comp Int}{x:Int}(ha:(a ()).Ret x):(Zy [a]).Ret x:=by
 by_cases hx:x=0
 ·subst hx
  refine Zh9 (by simp) fun j hj=>?_
  match j,hj with
  | 0,_=>exact ha
 ·exact Zcj (k:=0) (by simp) (by simp) (fun j hj hj2=>by omega) ha hx
def dropE(s:Zb)(id:Int):Zb:=⟨s.vars,dropL s.eqs id,dropL s.neqs id,s.next⟩
def setL(id:Int)(p:List Zc)(l:List Za):List Za:=l.map fun q=>if q.id=id then ⟨q.id,p⟩ else q
def setE(s:Zb)(e:Zd):Zb:=⟨s.vars,setL e.id e.p s.eqs,setL e.id e.p s.neqs,s.next⟩
def flipE(s:Zb)(id:Int):Zb:=insS (dropE s id) (findE s id).1 (!(findE s id).2.1)
theorem ZhX{s:Zb}(h:Good s)(id:Int):(ZcD s id).Ret (dropE s id):=by
 have he:=h.eqs.len
 have hn:=h.neqs.len
 exact⟨_,ZdS (by omega),_,ZfB (by omega) id,_,ZdS (by omega),_,ZfB (by omega) id,rfl⟩
theorem check678{s:Zb}{e:Zd}(hk:e.kind=6∨e.kind=7∨e.kind=8):checkF s e=idC s e:=by
 unfold checkF
 rw[if_neg (by omega),if_neg (by omega),if_neg (by omega),if_neg (by omega),if_neg (by omega),if_pos hk]
theorem ZjZ{s:Zb}(h:Good s){e:Zd}(hk:e.kind=6):(ZgX s e).Ret (if checkF s e=0 then (dropE s e.id,0) else (zeroS,checkF s e)):=by
 have hfirst:(Zy [fun _=>Zk (fun _=>ZV s e.id) 332]).Ret (checkF s e):=by
  have e1:checkF s e=(if hasB s e.id=true then (0:Int) else 332):=by
   rw[check678 (.inl hk)]
   unfold idC
   cases hb:hasB s e.id with
   | false=>rfl
   | true=>rw[if_neg (show ¬ (true=false) by decide),if_neg (show ¬ (e.kind=7∧_) from fun k=>by omega),if_neg (show ¬ (e.kind=8∧_) from fun k=>by omega)]; rfl
  rw[e1]
  exact first1 (ZM (Zdq h e.id) 332)
 refine⟨_,rfl,_,rfl,_,hfirst,?_⟩
 by_cases hc:checkF s e=0
 ·rw[if_pos hc,Comp.Ze,if_neg (fun hh=>hh hc)]
  exact⟨_,ZhX h e.id,rfl⟩
 ·rw[if_neg hc,Comp.Ze,if_pos hc]
  rfl
theorem ZkL{l:List Za}(hl:l.length≤100)(e:Zd):(ZL l e).Ret (setL e.id e.p l):=by
 refine⟨⟨by omega,by omega⟩,?_⟩
 show (Comp.next _ _).wp _
 refine Comp.Zh l.length (fun k s=>s=(setL e.id e.p (l.take k)++List.replicate (l.length-k) (Za.mk 0 []),(k:Int))) (fun k s hk hs=>?_) (fun s hs=>?_) (by simp[setL])
 ·subst hs
  have hlen:(setL e.id e.p (l.take k)).length=k:=by simp[setL]; omega
  have hrep:List.replicate (l.length-k) (Za.mk 0 [])=Za.mk 0 []::List.replicate (l.length-(k+1)) (Za.mk 0 []):=by
   rw[show l.length-k=(l.length-(k+1))+1 by omega,List.replicate_succ]
  show (if (k:Int)<(l.length:Int) then _ else _:Comp _).wp _
  rw[Comp.Ze,if_pos (by omega)]
  refine⟨l[k],idxN hk,if l[k].id=e.id then ⟨l[k].id,e.p⟩ else l[k],?_,Za.mk 0 [],⟨by omega,?_⟩,?_⟩
  ·unfold Zfu
   split <;> rfl
  ·rw[Int.toNat_natCast,List.getElem?_append_right (by omega),hlen,Nat.sub_self,hrep]; rfl
  ·show _=_
   rw[wrapN (by omega),Int.toNat_natCast,List.set_append_right _ _ (by omega),hlen,Nat.sub_self,hrep,List.set_cons_zero]
   have e':setL e.id e.p (l.take (k+1))=setL e.id e.p (l.take k)++[if l[k].id=e.id then ⟨l[k].id,e.p⟩ else l[k]]:=by
    unfold setL
    rw[← List.take_append_getElem hk,List.map_append]; rfl
   rw[e',List.append_assoc]; rfl
 ·subst hs
  show (if ((l.length:Nat):Int)<(l.length:Int) then _ else _:Comp _).wp _
  rw[Comp.Ze,if_neg (by omega),List.take_length,Nat.sub_self]
  show _=_
  simp
theorem ZkM{s:Zb}(h:Good s){e:Zd}(hp:PolOk e.p)(hk:e.kind=7):(Zh7 s e).Ret (if checkF s e=0 then (setE s e,0) else (zeroS,checkF s e)):=by
 have he:=h.eqs.len
 have hn:=h.neqs.len
 have hfirst:(Zy [fun _=>Zk (fun _=>ZV s e.id) 332,fun _=>Zk (fun _=>Zaj e.p s) 320]).Ret (checkF s e):=by
  have e1:checkF s e=(if (if hasB s e.id=true then (0:Int) else 332)=0 then (if fitB e.p (s.vars.length:Int)=true then (0:Int) else 320) else (if hasB s e.id=true then (0:Int) else 332)):=by
   rw[check678 (.inr (.inl hk))]
   unfold idC
   cases hb:hasB s e.id with
   | false=>rfl
   | true=>
    rw[if_neg (show ¬ (true=false) by decide)]
    cases hf:fitB e.p (s.vars.length:Int) with
    | false=>rw[if_pos ⟨hk,rfl⟩]; rfl
    | true=>rw[if_neg (show ¬ (e.kind=7∧true=false) from fun k=>absurd k.2 (by decide)),if_neg (show ¬ (e.kind=8∧_) from fun k=>by omega)]; rfl
  rw[e1]
  exact first2 (ZM (Zdq h e.id) 332) (fun _=>ZM (Zkx hp) 320)
 refine⟨_,rfl,_,rfl,_,rfl,_,rfl,_,hfirst,?_⟩
 by_cases hc:checkF s e=0
 ·rw[if_pos hc,Comp.Ze,if_neg (fun hh=>hh hc)]
  exact⟨_,ZkL (by omega) e,_,ZkL (by omega) e,rfl⟩
 ·rw[if_neg hc,Comp.Ze,if_pos hc]
  rfl
end Go.EL

namespace Go.EL
open Go Go.RowKit
theorem Zju(l:List Za)(id:Int):∀ q ∈ dropL l id,q.id≠id:=fun q hq=>by
 unfold dropL at hq
 simpa using (List.mem_filter.1 hq).2
theorem ZgP{l:List Za}(h:l.Pairwise fun a b=>a.id<b.id)(id:Int):(dropL l id).Pairwise fun a b=>a.id<b.id:=h.filter _
theorem ZgQ(l:List Za)(id:Int):(dropL l id).length≤l.length:=List.length_filter_le _ _
theorem Znt{s:Zb}{id:Int}(h:hasB s id=true):(findE s id).1.id=id:=by
 rw[← Zg1] at h
 unfold findE at h ⊢
 cases h1:findQ s.eqs id with
 | some q=>exact (Zap h1).2
 | none=>
  rw[h1] at h
  cases h2:findQ s.neqs id with
  | some q=>exact (Zap h2).2
  | none=>rw[h2] at h; cases h
theorem ZmH(s:Zb)(id:Int)(h:hasB s id=true):(findE s id).2.1=decide (¬ 0≤findI s.eqs id):=by
 rw[← Zg1] at h
 have h0:decide (0≤findI s.eqs id)=(findQ s.eqs id).isSome:=ZcF
 rw[decide_not,h0]
 unfold findE at h ⊢
 cases h1:findQ s.eqs id with
 | some q=>rfl
 | none=>
  rw[h1] at h
  cases h2:findQ s.neqs id with
  | some q=>rfl
  | none=>rw[h2] at h; cases h
theorem Znu{s:Zb}(h:Good s){e:Zd}(hk:e.kind=8):(ZgZ s e).Ret (if checkF s e=0 then (flipE s e.id,0) else (zeroS,checkF s e)):=by
 have he:=h.eqs.len
 have hn:=h.neqs.len
 have h2:(ZaC s (findE s e.id).2.1).Ret (decide ((if (!(findE s e.id).2.1)=true then s.neqs else s.eqs).length<12)):=by
  refine⟨if (!(findE s e.id).2.1)=true then s.neqs else s.eqs,?_,?_⟩
  ·unfold Zci
   cases (findE s e.id).2.1 <;> rfl
  ·exact decide_eq_decide.2 ⟨fun k=>by omega,fun k=>by omega⟩
 have hfirst:(Zy [fun _=>Zk (fun _=>ZV s e.id) 332,fun _=>Zk (fun _=>ZaC s (findE s e.id).2.1) 2]).Ret (checkF s e):=by
  have hh:=first2 (a:=fun _=>Zk (fun _=>ZV s e.id) 332) (b:=fun _=>Zk (fun _=>ZaC s (findE s e.id).2.1) 2) (ZM (Zdq h e.id) 332) (fun _=>ZM h2 2)
  rw[check678 (.inr (.inr hk))]
  refine Eq.mp (congrArg _ ?_) hh
  unfold idC
  cases hb:hasB s e.id with
  | false=>rfl
  | true=>
   have hq:=ZmH s e.id hb
   rw[if_neg (show ¬ (true=false) by decide),if_neg (show ¬ (e.kind=7∧_) from fun k=>by omega),hq]
   by_cases hf:0≤findI s.eqs e.id
   ·rw[decide_eq_false (show ¬ ¬ _ from fun k=>k hf)]
    by_cases hl:s.neqs.length<12
    ·rw[if_neg (show ¬ (e.kind=8∧((0≤findI s.eqs e.id∧12≤s.neqs.length)∨(¬ 0≤findI s.eqs e.id∧12≤s.eqs.length))) from fun k=>by rcases k.2 with k|k; omega; exact k.1 hf)]
     simp[hl]
    ·rw[if_pos (show e.kind=8∧((0≤findI s.eqs e.id∧12≤s.neqs.length)∨(¬ 0≤findI s.eqs e.id∧12≤s.eqs.length)) from ⟨hk,.inl ⟨hf,by omega⟩⟩)]
     simp[hl]
   ·rw[decide_eq_true hf]
    by_cases hl:s.eqs.length<12
    ·rw[if_neg (show ¬ (e.kind=8∧((0≤findI s.eqs e.id∧12≤s.neqs.length)∨(¬ 0≤findI s.eqs e.id∧12≤s.eqs.length))) from fun k=>by rcases k.2 with k|k; exact hf k.1; omega)]
     simp[hl]
    ·rw[if_pos (show e.kind=8∧((0≤findI s.eqs e.id∧12≤s.neqs.length)∨(¬ 0≤findI s.eqs e.id∧12≤s.eqs.length)) from ⟨hk,.inr ⟨hf,by omega⟩⟩)]
     simp[hl]
 refine⟨_,Zea h e.id,_,rfl,_,rfl,_,rfl,_,hfirst,?_⟩
 by_cases hc:checkF s e=0
 ·have hb:hasB s e.id=true:=by
   rw[check678 (.inr (.inr hk))] at hc
   unfold idC at hc
   cases hb:hasB s e.id with
   | true=>rfl
   | false=>rw[hb,if_pos rfl] at hc; exact absurd hc (by decide)
  rw[if_pos hc,Comp.Ze,if_neg (fun hh=>hh hc)]
  refine⟨_,ZhX h e.id,flipE s e.id,ZiC ?_ ?_ ?_,rfl⟩
  ·have h1:=ZgQ s.eqs e.id
   have h2:=ZgQ s.neqs e.id
   unfold dropE
   split <;> (simp only; omega)
  ·unfold dropE
   split
   ·exact ZgP h.neqs.inc _
   ·exact ZgP h.eqs.inc _
  ·rw[Znt hb]
   unfold dropE
   split
   ·exact Zju _ _
   ·exact Zju _ _
 ·rw[if_neg hc,Comp.Ze,if_pos hc]
  rfl
end Go.EL

namespace Go.EL
open Go Go.RowKit
theorem ZlP{s:Zb}(h:Good s){e:Zd}(hp:PolOk e.p)(hk:e.kind=5):(Zae s e).Ret (if checkF s e=0 then (addE s e,0) else (zeroS,checkF s e)):=by
 have hv:=h.vars
 have he:=h.eqs.len
 have hn:=h.neqs.len
 refine⟨_,ZaN h hp,?_⟩
 by_cases hc:checkF s e=0
 ·obtain⟨k1,k2,k3,k4,k5,k6,k7⟩:=check5 hk hc
  have hb:numE s e<1000000∧0≤numE s e:=by
   have:=h.next
   unfold numE
   split
   ·rename_i hz; have:=k6 hz; omega
   ·omega
  rw[if_pos hc,Comp.Ze,if_neg (fun hh=>hh hc)]
  refine⟨by simp[small]; omega,?_⟩
  rw[Comp.Ze,if_neg (by omega),Comp.Ze,if_neg (by omega),Comp.Ze,if_neg (by omega),Comp.Ze,if_neg (by omega)]
  refine⟨addE s e,?_,rfl⟩
  refine⟨_,ZaJ (by omega) _,_,ZaJ (by omega) _,?_⟩
  rw[Comp.Ze,if_pos hk]
  have hk1:(ZaF s e (Za.mk (numE s e) e.p)).wp fun a=>a=addE s e:=by
   unfold ZaF
   rw[Comp.Ze]
   cases hq:e.neq with
   | true=>
    rw[if_pos rfl]
    refine⟨_,Zd8 (by omega) h.neqs.inc _,?_⟩
    show _=_
    unfold addE
    rw[hq,wrap64 (x:=numE s e+1) (by omega)]
    rfl
   | false=>
    rw[if_neg (by decide)]
    refine⟨_,Zd8 (by omega) h.eqs.inc _,?_⟩
    show _=_
    unfold addE
    rw[hq,wrap64 (x:=numE s e+1) (by omega)]
    rfl
  rw[Comp.Ze]
  unfold numE at hk1
  by_cases hz:e.id=0
  ·rw[if_pos hz]; rw[if_pos hz] at hk1; exact hk1
  ·rw[if_neg hz]; rw[if_neg hz] at hk1; exact hk1
 ·rw[if_neg hc,Comp.Ze,if_pos hc]
  rfl
theorem ZlQ{s:Zb}(h:Good s){e:Zd}(hp:PolOk e.p)(hk:e.kind=6):(Zae s e).Ret (if checkF s e=0 then (dropE s e.id,0) else (zeroS,checkF s e)):=by
 have hv:=h.vars
 have he:=h.eqs.len
 have hn:=h.neqs.len
 refine⟨_,ZaN h hp,?_⟩
 by_cases hc:checkF s e=0
 ·rw[if_pos hc,Comp.Ze,if_neg (fun hh=>hh hc)]
  refine⟨by simp[small]; omega,?_⟩
  rw[Comp.Ze,if_neg (by omega),Comp.Ze,if_neg (by omega),Comp.Ze,if_neg (by omega),Comp.Ze,if_neg (by omega)]
  refine⟨dropE s e.id,?_,rfl⟩
  refine⟨_,ZaJ (by omega) _,_,ZaJ (by omega) _,?_⟩
  rw[Comp.Ze,if_neg (by omega),Comp.Ze,if_pos hk]
  exact⟨_,Zf8 (by omega) _,_,Zf8 (by omega) _,rfl⟩
 ·rw[if_neg hc,Comp.Ze,if_pos hc]
  rfl
theorem Zhm{id:Int}{p:List Zc}{l:List Za}(h:∀ q ∈ l,q.id≠id):setL id p l=l:=by
 unfold setL
 refine (List.map_congr_left (g:=fun q=>q) fun q hq=>?_).trans (List.map_id' l)
 rw[if_neg (h q hq)]
theorem Zii{x:Za}:∀ {l:List Za},(l.Pairwise fun a b=>a.id<b.id)→(∃ q ∈ l,q.id=x.id)→putL l x=setL x.id x.p l
 | [],_,⟨q,hq,_⟩=>by cases hq
 | y::l,hi,⟨q,hq,e⟩=>by
  obtain⟨h1,h2⟩:=List.pairwise_cons.1 hi
  by_cases hy:y.id=x.id
  ·have hn:∀ z ∈ l,z.id≠x.id:=fun z hz=>by have:=h1 z hz; omega
   have hs:setL x.id x.p (y::l)=x::setL x.id x.p l:=by
    show (if y.id=x.id then (⟨y.id,x.p⟩:Za) else y)::_=_
    rw[if_pos hy,hy]; rfl
   rw[hs,Zhm hn]
   unfold putL
   rw[filter_none (l:=y::l) (p:=fun q=>decide (q.id<x.id)) (fun z hz=>decide_eq_false (by
    rcases List.mem_cons.1 hz with rfl|hz
    ·omega
    ·have:=h1 z hz; omega)),List.nil_append,List.filter_cons_of_neg (by simp; omega),filter_all (l:=l) (fun z hz=>decide_eq_true (by have:=h1 z hz; omega))]
  ·have hq2:q ∈ l:=by
    rcases List.mem_cons.1 hq with rfl|hq
    ·exact absurd e hy
    ·exact hq
   have hlt:y.id<x.id:=by have:=h1 q hq2; omega
   have ih:=Zii h2 ⟨q,hq2,e⟩
   have hs:setL x.id x.p (y::l)=y::setL x.id x.p l:=by
    show (if y.id=x.id then (⟨y.id,x.p⟩:Za) else y)::_=_
    rw[if_neg hy]; rfl
   rw[hs,← ih]
   unfold putL
   rw[List.filter_cons_of_pos (by simpa using hlt),List.filter_cons_of_neg (by simp; omega)]
   rfl
theorem Ziz{l:List Za}{id:Int}(h:∀ q ∈ l,q.id≠id):dropL l id=l:=filter_all fun q hq=>decide_eq_true (h q hq)
theorem Zja{s:Zb}(h:Good s){id:Int}(h1:0≤findI s.eqs id):∃ j q,findQ s.eqs id=some q∧findI s.eqs id=((j:Nat):Int)∧s.eqs[j]? = some q∧q ∈ s.eqs∧q.id=id∧findQ s.neqs id=none∧∀ z ∈ s.neqs,z.id≠id:=by
 rcases ZbT s.eqs id with ⟨_,h2⟩|⟨j,q,h2,h3,h4⟩
 ·omega
 ·obtain⟨h5,h6⟩:=Zap h2
  have hno:∀ z ∈ s.neqs,z.id≠id:=fun z hz e=>h.apart q h5 z hz (by omega)
  refine⟨j,q,h2,h3,h4,h5,h6,?_,hno⟩
  cases hb:findQ s.neqs id with
  | none=>rfl
  | some z=>exact absurd (Zap hb).2 (hno z (Zap hb).1)
theorem Zid{s:Zb}{id:Int}(h0:hasB s id=true)(h1:¬ 0≤findI s.eqs id):findQ s.eqs id=none∧findI s.eqs id = -1∧(∀ z ∈ s.eqs,z.id≠id)∧∃ j q,findQ s.neqs id=some q∧findI s.neqs id=((j:Nat):Int)∧s.neqs[j]? = some q∧q ∈ s.neqs∧q.id=id:=by
 rcases ZbT s.eqs id with ⟨h2,h3⟩|⟨j,q,h2,h3,h4⟩
 ·refine⟨h2,h3,Zga h2,?_⟩
  rcases ZbT s.neqs id with ⟨h4,h5⟩|⟨j,q,h4,h5,h6⟩
  ·unfold hasB at h0
   rw[h3,h5] at h0
   exact absurd h0 (by decide)
  ·exact⟨j,q,h4,h5,h6,(Zap h4).1,(Zap h4).2⟩
 ·omega
theorem check78{s:Zb}{e:Zd}(hk:e.kind=6∨e.kind=7∨e.kind=8)(hc:checkF s e=0):hasB s e.id=true:=by
 rw[check678 hk] at hc
 unfold idC at hc
 cases hb:hasB s e.id with
 | true=>rfl
 | false=>rw[hb,if_pos rfl] at hc; exact absurd hc (by decide)
theorem ZlR{s:Zb}(h:Good s){e:Zd}(hp:PolOk e.p)(hk:e.kind=7):(Zae s e).Ret (if checkF s e=0 then (setE s e,0) else (zeroS,checkF s e)):=by
 have hv:=h.vars
 have he:=h.eqs.len
 have hn:=h.neqs.len
 refine⟨_,ZaN h hp,?_⟩
 by_cases hc:checkF s e=0
 ·rw[if_pos hc,Comp.Ze,if_neg (fun hh=>hh hc)]
  refine⟨by simp[small]; omega,?_⟩
  rw[Comp.Ze,if_neg (by omega),Comp.Ze,if_neg (by omega),Comp.Ze,if_neg (by omega),Comp.Ze,if_neg (by omega)]
  refine⟨setE s e,?_,rfl⟩
  refine⟨_,ZaJ (by omega) _,_,ZaJ (by omega) _,?_⟩
  rw[Comp.Ze,if_neg (by omega),Comp.Ze,if_neg (by omega),Comp.Ze,if_pos hk,Comp.Ze]
  have hb:=check78 (.inr (.inl hk)) hc
  by_cases hf:0≤findI s.eqs e.id
  ·obtain⟨j,q,_,_,_,h5,h6,_,h8⟩:=Zja h hf
   rw[if_pos hf]
   refine⟨_,Zd8 (by omega) h.eqs.inc _,?_⟩
   show _=_
   unfold setE
   rw[Zii h.eqs.inc ⟨q,h5,h6⟩,Zhm h8]
  ·obtain⟨_,_,h3,j,q,_,_,_,h5,h6⟩:=Zid hb hf
   rw[if_neg hf]
   refine⟨_,Zd8 (by omega) h.neqs.inc _,?_⟩
   show _=_
   unfold setE
   rw[Zii h.neqs.inc ⟨q,h5,h6⟩,Zhm h3]
 ·rw[if_neg hc,Comp.Ze,if_pos hc]
  rfl
theorem ZlS{s:Zb}(h:Good s){e:Zd}(hp:PolOk e.p)(hk:e.kind=8):(Zae s e).Ret (if checkF s e=0 then (flipE s e.id,0) else (zeroS,checkF s e)):=by
 have hv:=h.vars
 have he:=h.eqs.len
 have hn:=h.neqs.len
 refine⟨_,ZaN h hp,?_⟩
 by_cases hc:checkF s e=0
 ·rw[if_pos hc,Comp.Ze,if_neg (fun hh=>hh hc)]
  refine⟨by simp[small]; omega,?_⟩
  rw[Comp.Ze,if_neg (by omega),Comp.Ze,if_neg (by omega),Comp.Ze,if_neg (by omega),Comp.Ze,if_neg (by omega)]
  refine⟨flipE s e.id,?_,rfl⟩
  refine⟨_,ZaJ (by omega) _,_,ZaJ (by omega) _,?_⟩
  rw[Comp.Ze,if_neg (by omega),Comp.Ze,if_neg (by omega),Comp.Ze,if_neg (by omega),Comp.Ze,if_pos hk]
  refine⟨_,Zf8 (by omega) _,_,Zf8 (by omega) _,?_⟩
  rw[Comp.Ze]
  have hb:=check78 (.inr (.inr hk)) hc
  by_cases hf:0≤findI s.eqs e.id
  ·obtain⟨j,q,h1,h2,h3,h5,h6,h7,h8⟩:=Zja h hf
   rw[if_pos hf,h2]
   refine⟨q,⟨by omega,h3⟩,_,Zd8 (by omega) h.neqs.inc _,?_⟩
   show _=_
   unfold flipE findE
   rw[h1]
   unfold insS dropE
   rw[if_pos (by rfl)]
   simp only
   rw[Ziz h8]
  ·obtain⟨h1,h2,h3,j,q,h4,h7,h8,h5,h6⟩:=Zid hb hf
   rw[if_neg hf,h7]
   refine⟨q,⟨by omega,h8⟩,_,Zd8 (by omega) h.eqs.inc _,?_⟩
   show _=_
   unfold flipE findE
   rw[h1,h4]
   unfold insS dropE
   rw[if_neg (show ¬ (!true)=true by decide)]
   simp only
   rw[Zf7 h2]
 ·rw[if_neg hc,Comp.Ze,if_pos hc]
  rfl
end Go.EL

namespace Go.EL
open Go Go.RowKit
def doF(s:Zb)(e:Zd):Zb:=
 if e.kind=1 then addV s e else if e.kind=2 then dropV s e else if e.kind=3 then renV s e else if e.kind=4 then swpV s e
 else if e.kind=5 then addE s e else if e.kind=6 then dropE s e.id else if e.kind=7 then setE s e else flipE s e.id
def applyF(s:Zb)(e:Zd):Zb×Int:=if checkF s e=0 then (doF s e,0) else (zeroS,checkF s e)
theorem doF1{s:Zb}{e:Zd}(h:e.kind=1):doF s e=addV s e:=if_pos h
theorem doF2{s:Zb}{e:Zd}(h:e.kind=2):doF s e=dropV s e:=by unfold doF; rw[if_neg (by omega),if_pos h]
theorem doF3{s:Zb}{e:Zd}(h:e.kind=3):doF s e=renV s e:=by unfold doF; rw[if_neg (by omega),if_neg (by omega),if_pos h]
theorem doF4{s:Zb}{e:Zd}(h:e.kind=4):doF s e=swpV s e:=by unfold doF; rw[if_neg (by omega),if_neg (by omega),if_neg (by omega),if_pos h]
theorem doF5{s:Zb}{e:Zd}(h:e.kind=5):doF s e=addE s e:=by unfold doF; rw[if_neg (by omega),if_neg (by omega),if_neg (by omega),if_neg (by omega),if_pos h]
theorem doF6{s:Zb}{e:Zd}(h:e.kind=6):doF s e=dropE s e.id:=by unfold doF; rw[if_neg (by omega),if_neg (by omega),if_neg (by omega),if_neg (by omega),if_neg (by omega),if_pos h]
theorem doF7{s:Zb}{e:Zd}(h:e.kind=7):doF s e=setE s e:=by unfold doF; rw[if_neg (by omega),if_neg (by omega),if_neg (by omega),if_neg (by omega),if_neg (by omega),if_neg (by omega),if_pos h]
theorem doF8{s:Zb}{e:Zd}(h:e.kind=8):doF s e=flipE s e.id:=by unfold doF; rw[if_neg (by omega),if_neg (by omega),if_neg (by omega),if_neg (by omega),if_neg (by omega),if_neg (by omega),if_neg (by omega)]
theorem Zd0{s:Zb}{e:Zd}:(e.kind=1∨e.kind=2∨e.kind=3∨e.kind=4∨e.kind=5∨e.kind=6∨e.kind=7∨e.kind=8)∨(¬ (1≤e.kind∧e.kind≤8)∧checkF s e=1):=by
 by_cases h:1≤e.kind∧e.kind≤8
 ·exact .inl (by omega)
 ·refine .inr ⟨h,?_⟩
  unfold checkF
  rw[if_neg (by omega),if_neg (by omega),if_neg (by omega),if_neg (by omega),if_neg (by omega),if_neg (by omega)]
theorem Zgp{s:Zb}(h:Good s){e:Zd}(hp:PolOk e.p):(Zae s e).Ret (applyF s e):=by
 unfold applyF
 rcases Zd0 (s:=s) (e:=e) with (k|k|k|k|k|k|k|k)|⟨k,hc⟩
 ·rw[doF1 k]; exact ZlL h hp k
 ·rw[doF2 k]; exact ZlM h hp k
 ·rw[doF3 k]; exact ZlN h hp k
 ·rw[doF4 k]; exact ZlO h hp k
 ·rw[doF5 k]; exact ZlP h hp k
 ·rw[doF6 k]; exact ZlQ h hp k
 ·rw[doF7 k]; exact ZlR h hp k
 ·rw[doF8 k]; exact ZlS h hp k
 ·rw[if_neg (show ¬ checkF s e=0 by omega)]
  refine⟨_,ZaN h hp,?_⟩
  rw[Comp.Ze,if_pos (by omega)]
  rfl
theorem ZaQ{α β:Type}{c:Comp (α×β)}{r:α×β}(h:c.Ret r):(Comp.bind c fun y=>Comp.ret (y.1,y.2)).Ret r:=⟨r,h,rfl⟩
def KindOk(e:Zd):Prop:=-1000≤e.kind∧e.kind≤1000
theorem Zmb{k:Int}(h:¬ (1≤k∧k≤8)):mget Zp k=none:=by
 unfold Zp
 simp only[mget]
 rw[if_neg (by omega),if_neg (by omega),if_neg (by omega),if_neg (by omega),if_neg (by omega),if_neg (by omega),if_neg (by omega),if_neg (by omega)]
theorem ZaR{k:Int}(h:1≤k∧k≤8):(mget Zp k).isSome=true:=by
 have:k=1∨k=2∨k=3∨k=4∨k=5∨k=6∨k=7∨k=8:=by omega
 rcases this with rfl|rfl|rfl|rfl|rfl|rfl|rfl|rfl <;> rfl
theorem Zdt{s:Zb}(h:Good s){e:Zd}(hp:PolOk e.p)(hk:KindOk e):(Zbi s e).Ret (applyF s e):=by
 refine⟨by
  simp only[Lit.wf,Bool.and_eq_true,decide_eq_true_eq]
  exact⟨Int.le_trans (by decide) hk.1,Int.le_trans hk.2 (by decide)⟩,?_⟩
 unfold applyF
 rcases Zd0 (s:=s) (e:=e) with (k|k|k|k|k|k|k|k)|⟨k,hc⟩
 ·rw[Comp.Ze,if_neg (by rw[ZaR (by omega)]; decide),Comp.Ze,if_pos (by omega),doF1 k]
  exact ZaQ (Zl3 h k)
 ·rw[Comp.Ze,if_neg (by rw[ZaR (by omega)]; decide),Comp.Ze,if_neg (by omega),Comp.Ze,if_pos (by omega),doF2 k]
  exact ZaQ (Zlg h k)
 ·rw[Comp.Ze,if_neg (by rw[ZaR (by omega)]; decide),Comp.Ze,if_neg (by omega),Comp.Ze,if_neg (by omega),Comp.Ze,if_pos (by omega),doF3 k]
  exact ZaQ (Zmh h k)
 ·rw[Comp.Ze,if_neg (by rw[ZaR (by omega)]; decide),Comp.Ze,if_neg (by omega),Comp.Ze,if_neg (by omega),Comp.Ze,if_neg (by omega),Comp.Ze,if_pos (by omega),doF4 k]
  exact ZaQ (ZnJ h k)
 ·rw[Comp.Ze,if_neg (by rw[ZaR (by omega)]; decide),Comp.Ze,if_neg (by omega),Comp.Ze,if_neg (by omega),Comp.Ze,if_neg (by omega),Comp.Ze,if_neg (by omega),Comp.Ze,if_pos (by omega),doF5 k]
  exact ZaQ (Zn0 h hp k)
 ·rw[Comp.Ze,if_neg (by rw[ZaR (by omega)]; decide),Comp.Ze,if_neg (by omega),Comp.Ze,if_neg (by omega),Comp.Ze,if_neg (by omega),Comp.Ze,if_neg (by omega),Comp.Ze,if_neg (by omega),Comp.Ze,if_pos (by omega),doF6 k]
  exact ZaQ (ZjZ h k)
 ·rw[Comp.Ze,if_neg (by rw[ZaR (by omega)]; decide),Comp.Ze,if_neg (by omega),Comp.Ze,if_neg (by omega),Comp.Ze,if_neg (by omega),Comp.Ze,if_neg (by omega),Comp.Ze,if_neg (by omega),Comp.Ze,if_neg (by omega),Comp.Ze,if_pos (by omega),doF7 k]
  exact ZaQ (ZkM h hp k)
 ·rw[Comp.Ze,if_neg (by rw[ZaR (by omega)]; decide),Comp.Ze,if_neg (by omega),Comp.Ze,if_neg (by omega),Comp.Ze,if_neg (by omega),Comp.Ze,if_neg (by omega),Comp.Ze,if_neg (by omega),Comp.Ze,if_neg (by omega),Comp.Ze,if_neg (by omega),Comp.Ze,if_pos (by omega),doF8 k]
  exact ZaQ (Znu h k)
 ·rw[Comp.Ze,if_pos (by rw[Zmb k]; rfl),if_neg (show ¬ checkF s e=0 by omega),hc]
  rfl
end Go.EL

namespace Go.EL
open Go Go.RowKit
theorem Zie(v:ByteArray):∀ (l:List ByteArray) (k:Nat),(v ∉ l∧idxFrom v l k = -1)∨∃ j,idxFrom v l k=((k+j:Nat):Int)∧l[j]? = some v
 | [],_=>.inl ⟨by simp,rfl⟩
 | x::xs,k=>by
  unfold idxFrom
  by_cases h:x=v
  ·rw[if_pos h]
   exact .inr ⟨0,by simp,by simp[h]⟩
  ·rw[if_neg h]
   rcases Zie v xs (k+1) with ⟨h1,h2⟩|⟨j,h1,h2⟩
   ·exact .inl ⟨fun hm=>by
     rcases List.mem_cons.1 hm with e|hm
     ·exact h e.symm
     ·exact h1 hm,h2⟩
   ·exact .inr ⟨j+1,by rw[h1]; omega,by simpa using h2⟩
theorem ZmK{l:List ByteArray}{v:ByteArray}(h:idxI l v<0):v ∉ l:=by
 rcases Zie v l 0 with ⟨h1,_⟩|⟨j,h1,_⟩
 ·exact h1
 ·unfold idxI at h; omega
theorem ZoJ{l:List ByteArray}{v:ByteArray}{k:Nat}(h:idxI l v=(k:Int)):l[k]? = some v:=by
 rcases Zie v l 0 with ⟨_,h1⟩|⟨j,h1,h2⟩
 ·unfold idxI at h; omega
 ·unfold idxI at h
  rw[h] at h1
  rw[show k=j by omega]; exact h2
theorem Zia{π:M}(h:IsPerm π){p:List Zc}(hp:PolOk p){n n':Nat}(hn:n≤8)(hn':n'≤8)(hf:fitB p (n:Int)=true)(hv:∀ i:Fin 8,n'≤i.val→∃ j:Fin 8,(i.val:Int)=π j∧(n≤j.val∨Occurs j p=false)):fitB (permP π p) (n':Int)=true:=by
 obtain⟨h1,h2⟩:=(Zgb hn).1 hf
 refine (Zgb hn').2 ⟨fun t ht i hi=>?_,fun t ht=>?_⟩
 ·obtain⟨y,hy,rfl⟩:=List.mem_map.1 ((ZbU h hp.ord).1.mem_iff.1 ht)
  obtain⟨j,hj,hj2⟩:=hv i hi
  show ¬ 0<permM π y.m i
  rw[Zig h y.m j i hj]
  rcases hj2 with hj2|hj2
  ·exact h1 y hy j hj2
  ·intro hpos
   unfold Occurs at hj2
   have:=List.any_eq_false.1 hj2 y hy
   simp only[decide_eq_true_eq] at this
   exact this hpos
 ·obtain⟨y,hy,rfl⟩:=List.mem_map.1 ((ZbU h hp.ord).1.mem_iff.1 ht)
  show degM (permM π y.m)≤12
  rw[Zjs h]
  exact h2 y hy
theorem Zhc(π:M)(l:List Za){q:Za}(h:q ∈ movedL π l):∃ y ∈ l,y.id=q.id:=by
 obtain⟨y,hy,rfl⟩:=List.mem_map.1 h
 exact⟨y,hy,rfl⟩
theorem Zde{π:M}(h:IsPerm π){n n':Nat}{next:Int}{l:List Za}(hl:EqsOk n next l)(hf:∀ q ∈ l,fitB (permP π q.p) (n':Int)=true):EqsOk n' next (movedL π l) where
 len:=by unfold movedL; rw[List.length_map]; exact hl.len
 ids q hq:=by
  obtain⟨y,hy,e⟩:=Zhc π l hq
  have:=hl.ids y hy; omega
 inc:=by
  unfold movedL
  exact List.pairwise_map.2 hl.inc
 pol q hq:=by
  obtain⟨y,hy,rfl⟩:=List.mem_map.1 hq
  exact⟨Zih h (hl.pol y hy).1,hf y hy⟩
theorem Zfw{π:M}{a b:List Za}(h:∀ x ∈ a,∀ y ∈ b,x.id≠y.id):∀ x ∈ movedL π a,∀ y ∈ movedL π b,x.id≠y.id:=fun x hx y hy=>by
 obtain⟨x',hx',e1⟩:=Zhc π a hx
 obtain⟨y',hy',e2⟩:=Zhc π b hy
 have:=h x' hx' y' hy'; omega
theorem Good.add1{s:Zb}(h:Good s){e:Zd}(hk:e.kind=1)(hc:checkF s e=0):Good (addV s e):=by
 obtain⟨h1,h2,h3,h4,h5⟩:=check1 hk hc
 obtain⟨a,ha⟩:=Int.eq_ofNat_of_zero_le h2
 have ha2:a≤s.vars.length:=by omega
 have hπ:=ZaY (a:=s.vars.length) (b:=a) (by omega) (by omega)
 have hno:=ZmK h5
 have hlen:(s.vars.take a++[e.name]++s.vars.drop a).length=s.vars.length+1:=by simp; omega
 have hperm:(s.vars.take a++[e.name]++s.vars.drop a).Perm (e.name::s.vars):=by
  have h0:(s.vars.take a++([e.name]++s.vars.drop a)).Perm ([e.name]++(s.vars.take a++s.vars.drop a)):=List.perm_append_comm_assoc _ _ _
  rw[List.take_append_drop] at h0
  rw[List.append_assoc]; exact h0
 have hfit:∀ l,EqsOk s.vars.length s.next l→∀ q ∈ l,fitB (permP (rotF s.vars.length a) q.p) ((s.vars.length+1:Nat):Int)=true:=fun l hl q hq=>
  Zia hπ (hl.pol q hq).1 (n:=s.vars.length) (by omega) (by omega) (hl.pol q hq).2 fun i hi=>⟨i,by unfold rotF; rw[if_neg (by omega),if_neg (by omega),if_neg (by omega)],.inl (by omega)⟩
 unfold addV
 rw[ha,Int.toNat_natCast]
 constructor
 ·show (s.vars.take a++[e.name]++s.vars.drop a).length≤4
  omega
 ·intro v hv
  rcases List.mem_cons.1 (hperm.mem_iff.1 hv) with rfl|hv
  ·exact h4
  ·exact h.name v hv
 ·exact (hperm.pairwise_iff (fun hab e=>hab e.symm)).2 (List.pairwise_cons.2 ⟨fun b hb e=>hno (by rw[e]; exact hb),h.diff⟩)
 ·exact h.next
 ·show EqsOk (s.vars.take a++[e.name]++s.vars.drop a).length _ _
  rw[hlen]; exact Zde hπ h.eqs (hfit _ h.eqs)
 ·show EqsOk (s.vars.take a++[e.name]++s.vars.drop a).length _ _
  rw[hlen]; exact Zde hπ h.neqs (hfit _ h.neqs)
 ·exact Zfw h.apart
theorem ZjL{i:Fin 8}{l:List Za}(h:usedL i l=false):∀ q ∈ l,Occurs i q.p=false:=fun q hq=>by
 unfold usedL at h
 have:=List.any_eq_false.1 h q hq
 simpa using this
theorem Good.drop2{s:Zb}(h:Good s){e:Zd}(hk:e.kind=2)(hc:checkF s e=0):Good (dropV s e):=by
 obtain⟨h1,h2⟩:=check2 hk hc
 have hv:=h.vars
 obtain⟨j,hj,hu⟩:=Ze7 h.vars h1
 have h1':=of_decide_eq_true h1
 rw[hu] at h2
 have hj2:j.val<s.vars.length:=by omega
 have hπ:=ZaY (a:=j.val) (b:=s.vars.length-1) (by omega) (by omega)
 have hlen:(s.vars.take j.val++s.vars.drop (j.val+1)).length=s.vars.length-1:=by simp; omega
 have hsub:(s.vars.take j.val++s.vars.drop (j.val+1)).Sublist s.vars:=by
  rw[← List.eraseIdx_eq_take_drop_succ]; exact List.eraseIdx_sublist ..
 have hno:usedL j s.eqs=false∧usedL j s.neqs=false:=by
  unfold usedS at h2
  exact Bool.or_eq_false_iff.1 h2
 have hfit:∀ l,EqsOk s.vars.length s.next l→usedL j l=false→∀ q ∈ l,fitB (permP (rotF j.val (s.vars.length-1)) q.p) ((s.vars.length-1:Nat):Int)=true:=fun l hl hul q hq=>
  Zia hπ (hl.pol q hq).1 (n:=s.vars.length) (by omega) (by omega) (hl.pol q hq).2 fun i hi=>by
   by_cases hi2:i.val=s.vars.length-1
   ·refine⟨j,?_,.inr (ZjL hul q hq)⟩
    unfold rotF
    rw[if_pos rfl]; omega
   ·refine⟨i,?_,.inl (by omega)⟩
    unfold rotF
    rw[if_neg (by omega),if_neg (by omega),if_neg (by omega)]
 unfold dropV
 rw[hj,Int.toNat_natCast]
 constructor
 ·show (s.vars.take j.val++s.vars.drop (j.val+1)).length≤4
  omega
 ·exact fun v hv=>h.name v (hsub.subset hv)
 ·exact h.diff.sublist hsub
 ·exact h.next
 ·show EqsOk (s.vars.take j.val++s.vars.drop (j.val+1)).length _ _
  rw[hlen]; exact Zde hπ h.eqs (hfit _ h.eqs hno.1)
 ·show EqsOk (s.vars.take j.val++s.vars.drop (j.val+1)).length _ _
  rw[hlen]; exact Zde hπ h.neqs (hfit _ h.neqs hno.2)
 ·exact Zfw h.apart
theorem Good.ren3{s:Zb}(h:Good s){e:Zd}(hk:e.kind=3)(hc:checkF s e=0):Good (renV s e):=by
 obtain⟨h1,h2,h3⟩:=check3 hk hc
 have h1':=of_decide_eq_true h1
 obtain⟨a,ha⟩:=Int.eq_ofNat_of_zero_le h1'.1
 have ha2:a<s.vars.length:=by omega
 unfold renV
 rw[ha,Int.toNat_natCast]
 have hlen:(s.vars.set a e.name).length=s.vars.length:=List.length_set
 constructor
 ·show (s.vars.set a e.name).length≤4
  rw[hlen]; exact h.vars
 ·intro v hv
  rcases List.mem_or_eq_of_mem_set hv with hv|rfl
  ·exact h.name v hv
  ·exact h2
 ·show (s.vars.set a e.name).Pairwise fun a b=>a≠b
  rcases h3 with h3|h3
  ·have hno:=ZmK h3
   refine List.pairwise_iff_getElem.2 fun i j hi hj hij=>?_
   rw[List.getElem_set,List.getElem_set]
   rw[hlen] at hi hj
   by_cases e1:a=i
   ·rw[if_pos e1,if_neg (by omega)]
    exact fun e=>hno (by rw[e]; exact List.getElem_mem hj)
   ·rw[if_neg e1]
    by_cases e2:a=j
    ·rw[if_pos e2]
     exact fun e=>hno (by rw[← e]; exact List.getElem_mem hi)
    ·rw[if_neg e2]
     exact List.pairwise_iff_getElem.1 h.diff i j hi hj hij
  ·have hx:=ZoJ (k:=a) (by rw[h3,ha])
   rw[List.getElem?_eq_getElem ha2] at hx
   rw[← Option.some.inj hx,List.set_getElem_self]
   exact h.diff
 ·exact h.next
 ·show EqsOk (s.vars.set a e.name).length _ _
  rw[hlen]; exact h.eqs
 ·show EqsOk (s.vars.set a e.name).length _ _
  rw[hlen]; exact h.neqs
 ·exact h.apart
def swapL(l:List ByteArray)(a b:Nat):List ByteArray:=(l.set a (l.getD b ByteArray.empty)).set b (l.getD a ByteArray.empty)
theorem Zcn(l:List ByteArray)(a b:Nat):(swapL l a b).length=l.length:=by unfold swapL; rw[List.length_set,List.length_set]
theorem Ze4{l:List ByteArray}{a b:Nat}(ha:a<l.length)(hb:b<l.length){i:Nat}(hi:i<(swapL l a b).length):(swapL l a b)[i]=if b=i then l[a] else if a=i then l[b] else l[i]'(by rw[Zcn] at hi; exact hi):=by
 have hi':i<((l.set a (l.getD b ByteArray.empty)).set b (l.getD a ByteArray.empty)).length:=hi
 show ((l.set a (l.getD b ByteArray.empty)).set b (l.getD a ByteArray.empty))[i]'hi'=_
 rw[List.getElem_set,List.getElem_set]
 simp[List.getD_eq_getElem?_getD,List.getElem?_eq_getElem ha,List.getElem?_eq_getElem hb]
theorem Zm7{l:List ByteArray}{a b:Nat}(ha:a<l.length)(hb:b<l.length){v:ByteArray}(hv:v ∈ swapL l a b):v ∈ l:=by
 obtain⟨i,hi,rfl⟩:=List.mem_iff_getElem.1 hv
 rw[Ze4 ha hb hi]
 split
 ·exact List.getElem_mem _
 ·split <;> exact List.getElem_mem _
theorem Zc4{l:List ByteArray}(h:l.Pairwise fun a b=>a≠b){i j:Nat}(hi:i<l.length)(hj:j<l.length)(hij:i≠j):l[i]≠l[j]:=by
 rcases Nat.lt_or_gt_of_ne hij with h1|h1
 ·exact List.pairwise_iff_getElem.1 h i j hi hj h1
 ·exact fun e=>List.pairwise_iff_getElem.1 h j i hj hi h1 e.symm
theorem Zmq{l:List ByteArray}{a b:Nat}(ha:a<l.length)(hb:b<l.length)(h:l.Pairwise fun a b=>a≠b):(swapL l a b).Pairwise fun a b=>a≠b:=by
 refine List.pairwise_iff_getElem.2 fun i j hi hj hij=>?_
 rw[Ze4 ha hb hi,Ze4 ha hb hj]
 rw[Zcn] at hi hj
 by_cases e1:b=i
 ·rw[if_pos e1,if_neg (by omega)]
  by_cases e2:a=j
  ·rw[if_pos e2]; exact Zc4 h ha hb (by omega)
  ·rw[if_neg e2]; exact Zc4 h ha hj (by omega)
 ·rw[if_neg e1]
  by_cases e2:b=j
  ·rw[if_pos e2]
   by_cases e3:a=i
   ·rw[if_pos e3]; exact Zc4 h hb ha (by omega)
   ·rw[if_neg e3]; exact Zc4 h hi ha (by omega)
  ·rw[if_neg e2]
   by_cases e3:a=i
   ·rw[if_pos e3,if_neg (by omega)]; exact Zc4 h hb hj (by omega)
   ·rw[if_neg e3]
    by_cases e4:a=j
    ·rw[if_pos e4]; exact Zc4 h hi hb (by omega)
    ·rw[if_neg e4]; exact Zc4 h hi hj (by omega)
theorem ZjJ{a b:Nat}{i:Fin 8}(ha:a≠i.val)(hb:b≠i.val):swapF a b i=(i.val:Int):=by
 unfold swapF setF
 rw[if_neg (by omega),if_neg (by omega)]
 rfl
theorem Good.swap4{s:Zb}(h:Good s){e:Zd}(hk:e.kind=4)(hc:checkF s e=0):Good (swpV s e):=by
 obtain⟨h1,h2⟩:=check4 hk hc
 have hv:=h.vars
 have h1':=of_decide_eq_true h1
 have h2':=of_decide_eq_true h2
 obtain⟨a,ha⟩:=Int.eq_ofNat_of_zero_le h1'.1
 obtain⟨b,hb⟩:=Int.eq_ofNat_of_zero_le h2'.1
 have ha2:a<s.vars.length:=by omega
 have hb2:b<s.vars.length:=by omega
 have hπ:=swap_perm (a:=a) (b:=b) (by omega) (by omega)
 have hfit:∀ l,EqsOk s.vars.length s.next l→∀ q ∈ l,fitB (permP (swapF a b) q.p) (s.vars.length:Int)=true:=fun l hl q hq=>
  Zia hπ (hl.pol q hq).1 (n:=s.vars.length) (by omega) (by omega) (hl.pol q hq).2 fun i hi=>⟨i,(ZjJ (by omega) (by omega)).symm,.inl hi⟩
 unfold swpV
 rw[ha,hb,Int.toNat_natCast,Int.toNat_natCast]
 show Good ⟨swapL s.vars a b,_,_,_⟩
 constructor
 ·show (swapL s.vars a b).length≤4
  rw[Zcn]; exact h.vars
 ·exact fun v hv=>h.name v (Zm7 ha2 hb2 hv)
 ·exact Zmq ha2 hb2 h.diff
 ·exact h.next
 ·show EqsOk (swapL s.vars a b).length _ _
  rw[Zcn]; exact Zde hπ h.eqs (hfit _ h.eqs)
 ·show EqsOk (swapL s.vars a b).length _ _
  rw[Zcn]; exact Zde hπ h.neqs (hfit _ h.neqs)
 ·exact Zfw h.apart
theorem ZnF(l:List Za)(x:Za):(putL l x).length≤l.length+1:=by
 have h:∀ l:List Za,(l.filter fun q=>decide (q.id<x.id)).length+(l.filter fun q=>decide (x.id<q.id)).length≤l.length:=fun l=>by
  induction l with
  | nil=>simp
  | cons y l ih=>
   by_cases h1:y.id<x.id
   ·rw[List.filter_cons_of_pos (by simpa using h1),List.filter_cons_of_neg (by simp; omega)]
    simp only[List.length_cons]; omega
   ·rw[List.filter_cons_of_neg (by simp; omega)]
    by_cases h2:x.id<y.id
    ·rw[List.filter_cons_of_pos (by simpa using h2)]; simp only[List.length_cons]; omega
    ·rw[List.filter_cons_of_neg (by simp; omega)]; simp only[List.length_cons]; omega
 have:=h l
 unfold putL
 rw[List.length_append,List.length_cons]
 omega
theorem Zca{l:List Za}{x q:Za}(h:q ∈ putL l x):q=x∨(q ∈ l∧q.id≠x.id):=by
 unfold putL at h
 rcases List.mem_append.1 h with h|h
 ·obtain⟨h1,h2⟩:=List.mem_filter.1 h
  have:=of_decide_eq_true h2
  exact .inr ⟨h1,by omega⟩
 ·rcases List.mem_cons.1 h with h|h
  ·exact .inl h
  ·obtain⟨h1,h2⟩:=List.mem_filter.1 h
   have:=of_decide_eq_true h2
   exact .inr ⟨h1,by omega⟩
theorem ZnE{l:List Za}(h:l.Pairwise fun a b=>a.id<b.id)(x:Za):(putL l x).Pairwise fun a b=>a.id<b.id:=by
 unfold putL
 refine List.pairwise_append.2 ⟨h.filter _,List.pairwise_cons.2 ⟨fun b hb=>?_,h.filter _⟩,fun a ha b hb=>?_⟩
 ·exact of_decide_eq_true (List.mem_filter.1 hb).2
 ·have h1:a.id<x.id:=of_decide_eq_true (List.mem_filter.1 ha).2
  rcases List.mem_cons.1 hb with rfl|hb
  ·exact h1
  ·have h2:x.id<b.id:=of_decide_eq_true (List.mem_filter.1 hb).2
   omega
theorem ZiN{n:Nat}{next next':Int}{l:List Za}(h:EqsOk n next l)(hl:l.length<12){x:Za}(hx:PolOk x.p∧fitB x.p (n:Int)=true)(h1:1≤x.id∧x.id<next')(h2:next≤next'):EqsOk n next' (putL l x) where
 len:=by have:=ZnF l x; omega
 ids q hq:=by
  rcases Zca hq with rfl|⟨hq,_⟩
  ·exact h1
  ·have:=h.ids q hq; omega
 inc:=ZnE h.inc x
 pol q hq:=by
  rcases Zca hq with rfl|⟨hq,_⟩
  ·exact hx
  ·exact h.pol q hq
theorem EqsOk.up{n:Nat}{next next':Int}{l:List Za}(h:EqsOk n next l)(h2:next≤next'):EqsOk n next' l where
 len:=h.len
 ids q hq:=by have:=h.ids q hq; omega
 inc:=h.inc
 pol:=h.pol
theorem Zhs{n:Nat}{next:Int}{l:List Za}(h:EqsOk n next l)(id:Int):EqsOk n next (dropL l id) where
 len:=by have:=ZgQ l id; have:=h.len; omega
 ids q hq:=h.ids q (List.mem_filter.1 hq).1
 inc:=ZgP h.inc id
 pol q hq:=h.pol q (List.mem_filter.1 hq).1
theorem Zd9{id:Int}{p:List Zc}{l:List Za}{q:Za}(h:q ∈ setL id p l):∃ y ∈ l,y.id=q.id∧(q.p=y.p∨q.p=p):=by
 obtain⟨y,hy,rfl⟩:=List.mem_map.1 h
 refine⟨y,hy,?_⟩
 split
 ·exact⟨rfl,.inr rfl⟩
 ·exact⟨rfl,.inl rfl⟩
theorem Zm1{n:Nat}{next:Int}{l:List Za}(h:EqsOk n next l)(id:Int){p:List Zc}(hp:PolOk p∧fitB p (n:Int)=true):EqsOk n next (setL id p l) where
 len:=by unfold setL; rw[List.length_map]; exact h.len
 ids q hq:=by
  obtain⟨y,hy,e,_⟩:=Zd9 hq
  have:=h.ids y hy; omega
 inc:=by
  unfold setL
  refine List.pairwise_map.2 (h.inc.imp fun {a b} hab=>?_)
  have e1:∀ z:Za,(if z.id=id then (⟨z.id,p⟩:Za) else z).id=z.id:=fun z=>by split <;> rfl
  rw[e1,e1]; exact hab
 pol q hq:=by
  obtain⟨y,hy,_,e|e⟩:=Zd9 hq
  ·rw[e]; exact h.pol y hy
  ·rw[e]; exact hp
theorem ZoL{s:Zb}(h:Good s){e:Zd}(hk:e.kind=5)(hc:checkF s e=0):1≤numE s e∧numE s e<1000000:=by
 obtain⟨k1,k2,k3,k4,k5,k6,k7⟩:=check5 hk hc
 have:=h.next
 unfold numE
 split
 ·rename_i hz; have:=k6 hz; omega
 ·omega
theorem Good.add5{s:Zb}(h:Good s){e:Zd}(hp:PolOk e.p)(hk:e.kind=5)(hc:checkF s e=0):Good (addE s e):=by
 obtain⟨k1,k2,k3,k4,k5,k6,k7⟩:=check5 hk hc
 have hnew:=ZlA h k1 k3
 have hb:=ZoL h hk hc
 have hnx:=h.next
 have hno:(∀ q ∈ s.eqs,q.id≠numE s e)∧∀ q ∈ s.neqs,q.id≠numE s e:=⟨fun q hq e'=>absurd ((ZfJ s _).2 (.inl ⟨q,hq,e'⟩)) (by rw[hnew]; decide),fun q hq e'=>absurd ((ZfJ s _).2 (.inr ⟨q,hq,e'⟩)) (by rw[hnew]; decide)⟩
 have hnext:(if s.next<numE s e+1 then numE s e+1 else s.next)≤1000000∧s.next≤(if s.next<numE s e+1 then numE s e+1 else s.next)∧numE s e<(if s.next<numE s e+1 then numE s e+1 else s.next):=by split <;> omega
 unfold addE
 generalize (if s.next<numE s e+1 then numE s e+1 else s.next)=nx at hnext
 cases hq:e.neq with
 | false=>
  rw[if_neg (by decide),if_neg (by decide)]
  exact⟨h.vars,h.name,h.diff,⟨by show 1≤nx; omega,hnext.1⟩,ZiN h.eqs (k4 hq) ⟨hp,k7⟩ ⟨hb.1,hnext.2.2⟩ hnext.2.1,h.neqs.up hnext.2.1,fun a ha b hb=>by
   rcases Zca ha with rfl|⟨ha,_⟩
   ·exact fun e=>hno.2 b hb e.symm
   ·exact h.apart a ha b hb⟩
 | true=>
  rw[if_pos rfl,if_pos rfl]
  exact⟨h.vars,h.name,h.diff,⟨by show 1≤nx; omega,hnext.1⟩,h.eqs.up hnext.2.1,ZiN h.neqs (k5 hq) ⟨hp,k7⟩ ⟨hb.1,hnext.2.2⟩ hnext.2.1,fun a ha b hb=>by
   rcases Zca hb with rfl|⟨hb,_⟩
   ·exact hno.1 a ha
   ·exact h.apart a ha b hb⟩
theorem Good.drop6{s:Zb}(h:Good s)(id:Int):Good (dropE s id):=
 ⟨h.vars,h.name,h.diff,h.next,Zhs h.eqs id,Zhs h.neqs id,fun a ha b hb=>h.apart a (List.mem_filter.1 ha).1 b (List.mem_filter.1 hb).1⟩
theorem check7{s:Zb}{e:Zd}(hk:e.kind=7)(hc:checkF s e=0):fitB e.p (s.vars.length:Int)=true:=by
 have hb:=check78 (.inr (.inl hk)) hc
 rw[check678 (.inr (.inl hk))] at hc
 unfold idC at hc
 rw[hb,if_neg (by decide)] at hc
 cases hf:fitB e.p (s.vars.length:Int) with
 | true=>rfl
 | false=>rw[if_pos ⟨hk,hf⟩] at hc; exact absurd hc (by decide)
theorem check8{s:Zb}{e:Zd}(hk:e.kind=8)(hc:checkF s e=0):(0≤findI s.eqs e.id→s.neqs.length<12)∧(¬ 0≤findI s.eqs e.id→s.eqs.length<12):=by
 have hb:=check78 (.inr (.inr hk)) hc
 rw[check678 (.inr (.inr hk))] at hc
 unfold idC at hc
 rw[hb,if_neg (by decide),if_neg (fun k=>by omega)] at hc
 by_cases c:e.kind=8∧((0≤findI s.eqs e.id∧12≤s.neqs.length)∨(¬ 0≤findI s.eqs e.id∧12≤s.eqs.length))
 ·rw[if_pos c] at hc; exact absurd hc (by decide)
 ·exact⟨fun h1=>Nat.not_le.1 fun h2=>c ⟨hk,.inl ⟨h1,h2⟩⟩,fun h1=>Nat.not_le.1 fun h2=>c ⟨hk,.inr ⟨h1,h2⟩⟩⟩
theorem Good.set7{s:Zb}(h:Good s){e:Zd}(hp:PolOk e.p)(hk:e.kind=7)(hc:checkF s e=0):Good (setE s e):=
 ⟨h.vars,h.name,h.diff,h.next,Zm1 h.eqs e.id ⟨hp,check7 hk hc⟩,Zm1 h.neqs e.id ⟨hp,check7 hk hc⟩,fun a ha b hb=>by
  obtain⟨a',ha',e1,_⟩:=Zd9 ha
  obtain⟨b',hb',e2,_⟩:=Zd9 hb
  have:=h.apart a' ha' b' hb'
  omega⟩
theorem ZiA{s:Zb}(h:Good s){id:Int}(hb:hasB s id=true):
  (0≤findI s.eqs id∧∃ q ∈ s.eqs,q.id=id∧findE s id=(q,false,true)∧(∀ z ∈ s.neqs,z.id≠id)∧flipE s id=⟨s.vars,dropL s.eqs id,putL s.neqs q,s.next⟩)
  ∨(¬ 0≤findI s.eqs id∧∃ q ∈ s.neqs,q.id=id∧findE s id=(q,true,true)∧(∀ z ∈ s.eqs,z.id≠id)∧flipE s id=⟨s.vars,putL s.eqs q,dropL s.neqs id,s.next⟩):=by
 by_cases hf:0≤findI s.eqs id
 ·obtain⟨j,q,h1,h2,h3,h5,h6,h7,h8⟩:=Zja h hf
  have he:findE s id=(q,false,true):=by unfold findE; rw[h1]
  refine .inl ⟨hf,q,h5,h6,he,h8,?_⟩
  unfold flipE
  rw[he]
  unfold insS dropE
  rw[if_pos (by rfl)]
  simp only
  rw[Ziz h8]
 ·obtain⟨h1,h2,h3,j,q,h4,h7,h8,h5,h6⟩:=Zid hb hf
  have he:findE s id=(q,true,true):=by unfold findE; rw[h1,h4]
  refine .inr ⟨hf,q,h5,h6,he,h3,?_⟩
  unfold flipE
  rw[he]
  unfold insS dropE
  rw[if_neg (show ¬ (!true)=true by decide)]
  simp only
  rw[Zf7 h2]
theorem Good.flip8{s:Zb}(h:Good s){e:Zd}(hk:e.kind=8)(hc:checkF s e=0):Good (flipE s e.id):=by
 obtain⟨c1,c2⟩:=check8 hk hc
 rcases ZiA h (check78 (.inr (.inr hk)) hc) with ⟨hf,q,hq,e1,_,hno,e2⟩|⟨hf,q,hq,e1,_,hno,e2⟩
 ·rw[e2]
  exact⟨h.vars,h.name,h.diff,h.next,Zhs h.eqs _,ZiN h.neqs (c1 hf) (h.eqs.pol q hq) (h.eqs.ids q hq) (Int.le_refl _),fun a ha b hb=>by
   obtain⟨ha1,ha2⟩:=List.mem_filter.1 ha
   rcases Zca hb with rfl|⟨hb,_⟩
   ·rw[e1]; exact of_decide_eq_true ha2
   ·exact h.apart a ha1 b hb⟩
 ·rw[e2]
  exact⟨h.vars,h.name,h.diff,h.next,ZiN h.eqs (c2 hf) (h.neqs.pol q hq) (h.neqs.ids q hq) (Int.le_refl _),Zhs h.neqs _,fun a ha b hb=>by
   obtain⟨hb1,hb2⟩:=List.mem_filter.1 hb
   rcases Zca ha with rfl|⟨ha,_⟩
   ·rw[e1]; exact fun k=>of_decide_eq_true hb2 k.symm
   ·exact h.apart a ha b hb1⟩
theorem Good.edit{s:Zb}(h:Good s){e:Zd}(hp:PolOk e.p)(hc:checkF s e=0):Good (doF s e):=by
 rcases Zd0 (s:=s) (e:=e) with (k|k|k|k|k|k|k|k)|⟨_,k⟩
 ·rw[doF1 k]; exact h.add1 k hc
 ·rw[doF2 k]; exact h.drop2 k hc
 ·rw[doF3 k]; exact h.ren3 k hc
 ·rw[doF4 k]; exact h.swap4 k hc
 ·rw[doF5 k]; exact h.add5 hp k hc
 ·rw[doF6 k]; exact h.drop6 e.id
 ·rw[doF7 k]; exact h.set7 hp k hc
 ·rw[doF8 k]; exact h.flip8 k hc
 ·omega
end Go.EL

namespace Go.EL
open Go Go.RowKit
def zeroEd:Zd:=⟨0,ByteArray.empty,0,0,0,[],false⟩
def backF(s:Zb)(e:Zd):Zd:=
 if e.kind=1 then ⟨2,ByteArray.empty,e.at',0,0,[],false⟩
 else if e.kind=2 then ⟨1,s.vars.getD e.at'.toNat ByteArray.empty,e.at',0,0,[],false⟩
 else if e.kind=3 then ⟨3,s.vars.getD e.at'.toNat ByteArray.empty,e.at',0,0,[],false⟩
 else if e.kind=4 then ⟨4,ByteArray.empty,e.at',e.to',0,[],false⟩
 else if e.kind=5 then ⟨6,ByteArray.empty,0,0,numE s e,[],false⟩
 else if e.kind=6 then ⟨5,ByteArray.empty,0,0,e.id,(findE s e.id).1.p,(findE s e.id).2.1⟩
 else if e.kind=7 then ⟨7,ByteArray.empty,0,0,e.id,(findE s e.id).1.p,false⟩
 else ⟨8,ByteArray.empty,0,0,e.id,[],false⟩
def invF(s:Zb)(e:Zd):Zd×Int:=if checkF s e=0 then (backF s e,0) else (zeroEd,checkF s e)
theorem Zly{l:List ByteArray}{i:Int}(h:0≤i∧i<(l.length:Int)):0≤i∧l[i.toNat]? = some (l.getD i.toNat ByteArray.empty):=by
 have hi:i.toNat<l.length:=by omega
 refine⟨h.1,?_⟩
 rw[List.getD_eq_getElem?_getD,List.getElem?_eq_getElem hi]; rfl
theorem kinds0{s:Zb}{e:Zd}(hc:checkF s e=0):e.kind=1∨e.kind=2∨e.kind=3∨e.kind=4∨e.kind=5∨e.kind=6∨e.kind=7∨e.kind=8:=by
 rcases Zd0 (s:=s) (e:=e) with k|⟨_,k⟩
 ·exact k
 ·omega
theorem ZkU{s:Zb}(h:Good s){e:Zd}(hp:PolOk e.p)(hk:KindOk e):(Zev s e).Ret (invF s e):=by
 refine⟨_,Zdt h hp hk,?_⟩
 unfold applyF invF
 by_cases hc:checkF s e=0
 ·rw[if_pos hc,if_pos hc,Comp.Ze,if_neg (fun hh=>hh rfl)]
  unfold backF
  by_cases k1:e.kind=1
  ·rw[Comp.Ze,if_pos k1,if_pos k1]; rfl
  rw[Comp.Ze,if_neg k1,if_neg k1]
  by_cases k2:e.kind=2
  ·rw[Comp.Ze,if_pos k2,if_pos k2]
   exact⟨_,Zly (of_decide_eq_true (check2 k2 hc).1),rfl⟩
  rw[Comp.Ze,if_neg k2,if_neg k2]
  by_cases k3:e.kind=3
  ·rw[Comp.Ze,if_pos k3,if_pos k3]
   exact⟨_,Zly (of_decide_eq_true (check3 k3 hc).1),rfl⟩
  rw[Comp.Ze,if_neg k3,if_neg k3]
  by_cases k4:e.kind=4
  ·rw[Comp.Ze,if_pos k4,if_pos k4]; rfl
  rw[Comp.Ze,if_neg k4,if_neg k4]
  by_cases k5:e.kind=5
  ·rw[Comp.Ze,if_pos k5,if_pos k5]
   refine⟨numE s e,?_,rfl⟩
   unfold Zb0 numE
   by_cases hz:e.id=0
   ·rw[if_pos hz,if_pos hz]; rfl
   ·rw[if_neg hz,if_neg hz]; rfl
  rw[Comp.Ze,if_neg k5,if_neg k5]
  by_cases k8:e.kind=8
  ·rw[Comp.Ze,if_pos k8,if_neg (show ¬ e.kind=6 by omega),if_neg (show ¬ e.kind=7 by omega)]; rfl
  rw[Comp.Ze,if_neg k8]
  refine⟨_,Zea h e.id,?_⟩
  by_cases k6:e.kind=6
  ·rw[Comp.Ze,if_pos k6,if_pos k6]; rfl
  ·have k7:e.kind=7:=by have:=kinds0 hc; omega
   rw[Comp.Ze,if_neg k6,if_neg k6,if_pos k7]; rfl
 ·rw[if_neg hc,if_neg hc,Comp.Ze,if_pos hc]
  rfl
theorem Zkm{t:Zc}(h:TermOk t):(Zcs t t).Ret true:=by
 obtain⟨⟨c,e,h0,h1,h2⟩,_⟩:=h
 have:=ZO ZnI (x:=c) h1 h2
 unfold Zcs
 rw[if_pos rfl]
 refine⟨true,?_,rfl⟩
 rw[e]
 exact Z4 (by simpa [h0] using this)
theorem Zjo{p:List Zc}(h:PolOk p):(Zei p p).Ret true:=by
 have hl:=h.len
 unfold Zei
 rw[if_neg (fun k=>k rfl)]
 refine Comp.Zh p.length (fun k s=>s=(k:Int)) (fun k s hk hs=>?_) (fun s hs=>?_) rfl
 ·subst hs
  rw[Comp.Ze,if_pos (by omega)]
  refine⟨p[k],idxN hk,p[k],idxN hk,true,Zkm (h.at hk),?_⟩
  rw[Comp.Ze,if_neg (by decide)]
  exact wrapN (by omega)
 ·subst hs
  rw[Comp.Ze,if_neg (by omega)]
  rfl
theorem Zkl{e:Zd}(h:PolOk e.p):(Zcy e e).Ret true:=by
 unfold Zcy
 rw[if_pos rfl,if_pos rfl,if_pos rfl,if_pos rfl,if_pos rfl,if_pos rfl]
 exact⟨true,Zjo h,rfl⟩
theorem Zdz:PolOk []:=⟨List.Pairwise.nil,fun t ht=>absurd ht List.not_mem_nil,by decide⟩
theorem Zjw{s:Zb}(h:Good s)(id:Int):PolOk (findE s id).1.p:=by
 unfold findE
 cases h1:findQ s.eqs id with
 | some q=>exact (h.eqs.pol q (Zap h1).1).1
 | none=>
  cases h2:findQ s.neqs id with
  | some q=>exact (h.neqs.pol q (Zap h2).1).1
  | none=>exact Zdz
end Go.EL

namespace Go.EL
open Go Go.RowKit
def allF:Zb→List Zd→Nat→Zt
 | s,[],k=>⟨s,(k:Int),0⟩
 | s,e::l,k=>if checkF s e=0 then allF (doF s e) l (k+1) else ⟨zeroS,(k:Int),checkF s e⟩
theorem Zn1{s:Zb}{l:List Zd}{k:Nat}(hk:k<l.length):allF s (l.drop k) k=if checkF s l[k]=0 then allF (doF s l[k]) (l.drop (k+1)) (k+1) else ⟨zeroS,(k:Int),checkF s l[k]⟩:=by
 rw[List.drop_eq_getElem_cons hk]; rfl
theorem ZnT{l:List Zd}(hl:l.length≤1000)(hp:∀ e ∈ l,PolOk e.p∧KindOk e){s:Zb}(h:Good s):(Zh4 s l).Ret ((allF s l 0).s,(allF s l 0).n,(allF s l 0).e):=by
 show (Comp.next _ _).wp _
 refine Comp.Zh l.length (fun k st=>∃ t,st=((k:Int),t,zeroS)∧Good t∧allF s l 0=allF t (l.drop k) k) (fun k st hk hs=>?_) (fun st hs=>?_) ⟨s,rfl,h,rfl⟩
 ·obtain⟨t,rfl,hg,he⟩:=hs
  have hpk:=hp l[k] (List.getElem_mem hk)
  rw[Zn1 hk] at he
  show (if (k:Int)<(l.length:Int) then _ else _:Comp _).wp _
  rw[Comp.Ze,if_pos (by omega)]
  refine⟨l[k],idxN hk,_,Zdt hg hpk.1 hpk.2,?_⟩
  rw[Comp.Ze]
  unfold applyF
  by_cases hc:checkF t l[k]=0
  ·rw[if_pos hc] at he
   rw[if_pos hc,if_neg (fun hh=>hh rfl)]
   refine⟨doF t l[k],?_,hg.edit hpk.1 hc,he⟩
   show _=_
   rw[wrapN (by omega)]
  ·rw[if_neg hc] at he
   rw[if_neg hc,if_pos hc]
   show _=_
   rw[he]; rfl
 ·obtain⟨t,rfl,hg,he⟩:=hs
  rw[List.drop_length] at he
  show (if ((l.length:Nat):Int)<(l.length:Int) then _ else _:Comp _).wp _
  rw[Comp.Ze,if_neg (by omega)]
  show _=_
  rw[he]; rfl
theorem Znq{l:List Zd}(hl:l.length≤1000)(hp:∀ e ∈ l,PolOk e.p∧KindOk e){s:Zb}(h:Good s):(Zd1 s l).Ret (allF s l 0):=⟨_,ZnT hl hp h,rfl⟩
structure DescOk (x:Zx):Prop where
 kind:0≤x.kind∧x.kind≤255
 a:0≤x.a∧x.a≤255
 b:0≤x.b∧x.b≤255
 n:0≤x.n∧x.n≤255
 p:RawOk x.p
def SmallP(p:List Zc):Prop:=p.length≤3∧∀ t ∈ p,(∃ c:Int,t.c=ratI c∧-9≤c∧c≤9)∧degM t.m≤2
structure EditOk (s:Zb) (e:Zd):Prop where
 kind:1≤e.kind∧e.kind≤8
 p:PolOk e.p
 small:SmallP e.p
 id:0≤e.id∧e.id≤s.next
theorem EditOk.k{s:Zb}{e:Zd}(h:EditOk s e):KindOk e:=by have:=h.kind; exact⟨by omega,by omega⟩
theorem Zi0{s:Zb}(h:Good s){x:Zx}(hx:DescOk x)(b:Zd):∃ e,(ZbZ s x b).Ret e∧e.kind=b.kind∧e.id=b.id∧PolOk e.p∧SmallP e.p:=by
 have hv:=h.vars
 have e1:(if 3<(s.vars.length:Int) then 3 else (s.vars.length:Int))=((min s.vars.length 3:Nat):Int):=by split <;> omega
 refine⟨⟨b.kind,b.name,b.at',b.to',b.id,madeP x.p (min s.vars.length 3) 2 3,b.neq⟩,⟨_,by rw[e1]; exact Znl hx.p (by omega) (by decide) (by decide) (by decide),rfl⟩,rfl,rfl,?_⟩
 have hm:=Znz hx.p (n:=min s.vars.length 3) (by omega) (d:=2) (by decide) 3
 refine⟨hm.pol (by decide) (by decide) (by decide),hm.len,fun t ht=>⟨?_,(hm.mon t ht).2.2⟩⟩
 obtain⟨c,k1,_,k3,k4⟩:=hm.cof t ht
 exact⟨c,k1,by omega,by omega⟩
theorem ZnV{s:Zb}(h:Good s){x:Zx}(hx:DescOk x)(b:Zd)(hb:0≤b.id∧b.id≤s.next):∃ e,(ZaV s x b).Ret e∧e.kind=b.kind∧(0≤e.id∧e.id≤s.next)∧PolOk e.p∧SmallP e.p:=by
 have hn:=h.next
 unfold ZaV
 by_cases c1:b.kind=5
 ·rw[if_pos c1]
  by_cases c2:0<Int.tmod x.n 4
  ·rw[if_pos c2]
   obtain⟨e,h1,h2,h3,h4⟩:=Zi0 h hx (Zd.mk b.kind b.name b.at' b.to' 0 b.p b.neq)
   have h3':e.id=0:=h3
   exact⟨e,h1,h2,by omega,h4⟩
  ·rw[if_neg c2]
   obtain⟨e,h1,h2,h3,h4⟩:=Zi0 h hx b
   exact⟨e,h1,h2,by omega,h4⟩
 ·rw[if_neg c1]
  obtain⟨e,h1,h2,h3,h4⟩:=Zi0 h hx b
  exact⟨e,h1,h2,by omega,h4⟩
theorem ZnU{s:Zb}(h:Good s){x:Zx}(hx:DescOk x):∃ e,(Zf2 s x).Ret e∧EditOk s e:=by
 have hv:=h.vars
 have hn:=h.next
 obtain⟨k1,k2⟩:=hx.kind
 have ka:=hx.a
 have kn:=hx.n
 have w1:IntKind.i64.wrap ((s.vars.length:Int)+1)=(s.vars.length:Int)+1:=wrap64 (by omega)
 have w2:IntKind.i64.wrap (s.next+1)=s.next+1:=wrap64 (by omega)
 have w3:IntKind.i64.wrap x.n=x.n:=wrap64 (by omega)
 have t6:=ZaE (a:=x.n) (b:=6) (by omega) (by omega)
 have t16:=ZaE (a:=x.kind) (b:=16) (by omega) (by omega)
 have t4:=ZaE (a:=x.a) (b:=4) (by omega) (by omega)
 have tn:=ZaE (a:=x.n) (b:=s.next+1) (by omega) (by omega)
 have hname:∃ v,0≤Int.tmod x.n 6∧([Zn,ZH,ZA,Zu,Z6,Z1]:List ByteArray)[(Int.tmod x.n 6).toNat]? = some v:=⟨_,t6.1,List.getElem?_eq_getElem (show (Int.tmod x.n 6).toNat<6 by omega)⟩
 obtain⟨v,hv2⟩:=hname
 have key:∀ b:Zd,1≤b.kind∧b.kind≤8→b.id=Int.tmod (IntKind.i64.wrap x.n) (IntKind.i64.wrap (s.next+1))→∃ e,(ZaV s x b).Ret e∧EditOk s e:=fun b hb hid=>by
  rw[w2,w3] at hid
  obtain⟨e,h1,h2,h3,h4⟩:=ZnV h hx b (by omega)
  exact⟨e,h1,⟨by omega,h4.1,h4.2,h3⟩⟩
 have wrap:∀ {e:Zd}{c:Comp Zd},(c).Ret e→(Comp.chk ((IntKind.i64.wrap ((s.vars.length:Int)+1))≠0) (Comp.chk ((IntKind.i64.wrap ((s.vars.length:Int)+1))≠0) (Comp.chk ((IntKind.i64.wrap (s.next+1))≠0) c))).Ret e:=fun {e c} hc=>⟨by rw[w1]; omega,by rw[w1]; omega,by rw[w2]; omega,hc⟩
 unfold Zf2
 by_cases c1:8≤Int.tmod x.kind 16
 ·by_cases c2:Int.tmod x.a 8<5
  ·obtain⟨e,h1,h2⟩:=key (Zd.mk 5 v (Int.tmod (IntKind.i64.wrap x.a) (IntKind.i64.wrap ((s.vars.length:Int)+1))) (Int.tmod (IntKind.i64.wrap x.b) (IntKind.i64.wrap ((s.vars.length:Int)+1))) (Int.tmod (IntKind.i64.wrap x.n) (IntKind.i64.wrap (s.next+1))) [] (decide ((Int.tmod x.b 4)=3))) (by show 1≤(5:Int)∧(5:Int)≤8; decide) rfl
   refine⟨e,wrap ⟨_,rfl,v,hv2,?_⟩,h2⟩
   rw[Comp.Ze,if_pos c1,Comp.Ze,if_pos c2]; exact h1
  ·have w4:IntKind.i64.wrap (5+(IntKind.i64.wrap (Int.tmod x.a 4)))=5+Int.tmod x.a 4:=by rw[wrap64 (x:=Int.tmod x.a 4) (by omega),wrap64 (by omega)]
   obtain⟨e,h1,h2⟩:=key (Zd.mk (IntKind.i64.wrap (5+(IntKind.i64.wrap (Int.tmod x.a 4)))) v (Int.tmod (IntKind.i64.wrap x.a) (IntKind.i64.wrap ((s.vars.length:Int)+1))) (Int.tmod (IntKind.i64.wrap x.b) (IntKind.i64.wrap ((s.vars.length:Int)+1))) (Int.tmod (IntKind.i64.wrap x.n) (IntKind.i64.wrap (s.next+1))) [] (decide ((Int.tmod x.b 4)=3))) (by show 1≤IntKind.i64.wrap (5+(IntKind.i64.wrap (Int.tmod x.a 4)))∧IntKind.i64.wrap (5+(IntKind.i64.wrap (Int.tmod x.a 4)))≤8; rw[w4]; omega) rfl
   refine⟨e,wrap ⟨_,rfl,v,hv2,?_⟩,h2⟩
   rw[Comp.Ze,if_pos c1,Comp.Ze,if_neg c2]; exact h1
 ·have w4:IntKind.i64.wrap (1+(IntKind.i64.wrap (Int.tmod x.kind 16)))=1+Int.tmod x.kind 16:=by rw[wrap64 (x:=Int.tmod x.kind 16) (by omega),wrap64 (by omega)]
  obtain⟨e,h1,h2⟩:=key (Zd.mk (IntKind.i64.wrap (1+(IntKind.i64.wrap (Int.tmod x.kind 16)))) v (Int.tmod (IntKind.i64.wrap x.a) (IntKind.i64.wrap ((s.vars.length:Int)+1))) (Int.tmod (IntKind.i64.wrap x.b) (IntKind.i64.wrap ((s.vars.length:Int)+1))) (Int.tmod (IntKind.i64.wrap x.n) (IntKind.i64.wrap (s.next+1))) [] (decide ((Int.tmod x.b 4)=3))) (by show 1≤IntKind.i64.wrap (1+(IntKind.i64.wrap (Int.tmod x.kind 16)))∧IntKind.i64.wrap (1+(IntKind.i64.wrap (Int.tmod x.kind 16)))≤8; rw[w4]; omega) rfl
  refine⟨e,wrap ⟨_,rfl,v,hv2,?_⟩,h2⟩
  rw[Comp.Ze,if_neg c1]; exact h1
def oneS:Zb:=⟨[],[],[],1⟩
theorem Zdg:Good oneS:=⟨by decide,fun v hv=>absurd hv List.not_mem_nil,List.Pairwise.nil,by decide,⟨by decide,fun q hq=>absurd hq List.not_mem_nil,List.Pairwise.nil,fun q hq=>absurd hq List.not_mem_nil⟩,⟨by decide,fun q hq=>absurd hq List.not_mem_nil,List.Pairwise.nil,fun q hq=>absurd hq List.not_mem_nil⟩,fun a ha=>absurd ha List.not_mem_nil⟩
end Go.EL

namespace Go.EL
open Go Go.RowKit
theorem EqsOk.pols{n:Nat}{next:Int}{l:List Za}(h:EqsOk n next l):∀ q ∈ l,PolOk q.p:=fun q hq=>(h.pol q hq).1
theorem getD_eq{l:List ByteArray}{a:Nat}(ha:a<l.length):l.getD a ByteArray.empty=l[a]:=by
 rw[List.getD_eq_getElem?_getD,List.getElem?_eq_getElem ha]; rfl
theorem Ze0{l:List Za}{id:Int}{q:Za}:q ∈ dropL l id↔q ∈ l∧q.id≠id:=by
 unfold dropL
 rw[List.mem_filter,decide_eq_true_eq]
end Go.EL

namespace Go.EL
open Go Go.RowKit
instance decTerm:DecidableEq Zc:=fun ⟨a1,a2⟩ ⟨b1,b2⟩=>decidable_of_iff (a1=b1∧a2=b2) (by simp)
theorem Zno{x y:Zc}(hx:TermOk x)(hy:TermOk y):∃ v,(ZbN x.c y.c).Ret v∧(v=0↔x.c=y.c):=by
 obtain⟨⟨a,e1,a0,a1,a2⟩,_⟩:=hx
 obtain⟨⟨b,e2,b0,b1,b2⟩,_⟩:=hy
 have h1:=ZO ZnG (x:=a) a1 a2
 have h2:(between (-12) 12 fun b=>b == 0 || runs 30 (ZbN (ratI a) (ratI b)) (if a<b then -1 else if a=b then 0 else 1))=true:=by simpa [a0] using h1
 have h3:=ZO h2 (x:=b) b1 b2
 refine⟨_,by rw[e1,e2]; exact Z4 (by simpa [b0] using h3),?_⟩
 rw[e1,e2]
 by_cases c1:a<b
 ·rw[if_pos c1]
  exact⟨fun k=>absurd k (by decide),fun k=>by have:=ZkF k; omega⟩
 ·rw[if_neg c1]
  by_cases c2:a=b
  ·rw[if_pos c2,c2]; exact⟨fun _=>rfl,fun _=>rfl⟩
  ·rw[if_neg c2]
   exact⟨fun k=>absurd k (by decide),fun k=>absurd (ZkF k) c2⟩
theorem Zln{x y:Zc}(hx:TermOk x)(hy:TermOk y):(ZaS x y).Ret (decide (x=y)):=by
 unfold ZaS
 by_cases hm:x.m=y.m
 ·rw[if_pos hm]
  obtain⟨v,h1,h2⟩:=Zno hx hy
  refine⟨v,h1,?_⟩
  refine decide_eq_decide.2 (h2.trans ⟨fun k=>?_,fun k=>by rw[k]⟩)
  cases x; cases y
  simp only at hm k
  rw[hm,k]
 ·rw[if_neg hm]
  exact (decide_eq_false fun k=>hm (by rw[k])).symm
theorem Zjm{p q:List Zc}(hp:PolOk p)(hq:PolOk q):(Zby p q).Ret (decide (p=q)):=by
 have hl:=hp.len
 refine⟨_,?_,rfl⟩
 unfold Zs
 by_cases hlen:p.length=q.length
 ·rw[if_neg (fun k=>k (by omega))]
  refine Comp.Zh p.length (fun k s=>s=(k:Int)∧p.take k=q.take k) (fun k s hk hs=>?_) (fun s hs=>?_) ⟨rfl,rfl⟩
  ·obtain⟨rfl,he⟩:=hs
   have hk2:k<q.length:=by omega
   rw[Comp.Ze,if_pos (by omega)]
   refine⟨p[k],idxN hk,q[k],idxN hk2,_,Zln (hp.at hk) (hq.at hk2),?_⟩
   rw[Comp.Ze]
   by_cases e:p[k]=q[k]
   ·rw[decide_eq_true e,if_neg (by decide)]
    refine⟨wrapN (by omega),?_⟩
    rw[← List.take_append_getElem hk,← List.take_append_getElem hk2,he,e]
   ·rw[decide_eq_false e,if_pos (by decide)]
    show _=_
    refine (decide_eq_false fun k'=>e ?_).symm
    simp only[k']
  ·obtain⟨rfl,he⟩:=hs
   rw[Comp.Ze,if_neg (by omega)]
   show _=_
   refine (decide_eq_true ?_).symm
   rw[List.take_length,hlen,List.take_length] at he
   exact he
 ·rw[if_pos (fun k=>hlen (by omega))]
  exact (decide_eq_false fun k=>hlen (by rw[k])).symm
def missB(b:Zb)(ev i:Bool)(q:Za):Bool:=ev || !(findE b q.id).2.2 || !(decide ((findE b q.id).2.1=i)) || !(decide ((findE b q.id).1.p=q.p))
def mk6(q:Za):Zd:=Zd.mk 6 ByteArray.empty 0 0 q.id [] false
def mk5(neq:Bool)(q:Za):Zd:=Zd.mk 5 ByteArray.empty 0 0 q.id q.p neq
theorem ZhR{b:Zb}(hb:Good b)(ev:Bool)(v:Int){l:List Za}(hl:l.length≤100)(hp:∀ q ∈ l,PolOk q.p){acc:List Zd}(ha:acc.length≤1000):(Za3 b ev v l (acc,0)).Ret (acc++(l.filter (missB b ev (decide (v=1)))).map mk6):=by
 refine Comp.Zh l.length (fun k s=>s=(acc++((l.take k).filter (missB b ev (decide (v=1)))).map mk6,(k:Int))) (fun k s hk hs=>?_) (fun s hs=>?_) (by simp)
 ·subst hs
  have hk5:∀ fl,fl=missB b ev (decide (v=1)) l[k]→(ZB v (acc++((l.take k).filter (missB b ev (decide (v=1)))).map mk6) (k:Int) l[k] fl).wp (Out (fun s'=>s'=(acc++((l.take (k+1)).filter (missB b ev (decide (v=1)))).map mk6,((k+1:Nat):Int))) fun a=>a=acc++(l.filter (missB b ev (decide (v=1)))).map mk6):=fun fl hfl=>by
   have hlen:((l.take k).filter (missB b ev (decide (v=1)))).length≤k:=Nat.le_trans (List.length_filter_le _ _) (by simp; omega)
   unfold ZB
   rw[Comp.Ze]
   by_cases c:fl=true
   ·rw[if_pos c]
    refine⟨mk6 l[k],rfl,by simp[small]; omega,?_⟩
    show _=_
    rw[wrapN (by omega),ZZ hk,if_pos (by rw[← hfl]; exact c),List.map_append,← List.append_assoc]; rfl
   ·rw[if_neg c]
    show _=_
    rw[wrapN (by omega),ZZ hk,if_neg (by rw[← hfl]; exact c),List.append_nil]
  show (if (k:Int)<(l.length:Int) then _ else _:Comp _).wp _
  rw[Comp.Ze,if_pos (by omega)]
  refine⟨l[k],idxN hk,_,Zea hb _,?_⟩
  rw[Comp.Ze]
  cases ev with
  | true=>rw[if_pos rfl]; exact hk5 true rfl
  | false=>
   rw[if_neg (by decide),Comp.Ze]
   cases hf:(findE b l[k].id).2.2 with
   | false=>
    rw[if_neg (by decide)]
    exact hk5 true (by unfold missB; rw[hf]; rfl)
   | true=>
    rw[if_pos rfl,Comp.Ze]
    by_cases hn:(findE b l[k].id).2.1=decide (v=1)
    ·rw[if_neg (fun k=>k hn)]
     refine⟨_,Zjm (Zjw hb _) (hp _ (List.getElem_mem hk)),?_⟩
     exact hk5 _ (by unfold missB; rw[hf,decide_eq_true hn]; rfl)
    ·rw[if_pos hn]
     exact hk5 true (by unfold missB; rw[hf,decide_eq_false hn]; rfl)
 ·subst hs
  show (if ((l.length:Nat):Int)<(l.length:Int) then _ else _:Comp _).wp _
  rw[Comp.Ze,if_neg (by omega),List.take_length]
  rfl
theorem Zg9{a b:Zb}(ha:Good a)(hb:Good b)(ev:Bool):(Zay a b ev).Ret ((a.eqs.filter (missB b ev false)).map mk6++(a.neqs.filter (missB b ev true)).map mk6):=by
 have he:=ha.eqs.len
 have hn:=ha.neqs.len
 have h1:=ZhR hb ev 0 (l:=a.eqs) (by omega) ha.eqs.pols (acc:=[]) (by simp)
 have hlen:((a.eqs.filter (missB b ev false)).map mk6).length≤1000:=by rw[List.length_map]; exact Nat.le_trans (List.length_filter_le _ _) (by omega)
 have h2:=ZhR hb ev 1 (l:=a.neqs) (by omega) ha.neqs.pols (acc:=(a.eqs.filter (missB b ev false)).map mk6) hlen
 show (Comp.next _ _).wp _
 refine Comp.Zm ?_
 rw[Comp.Ze,if_pos (by show (0:Int)<((2:Nat):Int); decide)]
 refine⟨a.eqs,⟨by omega,rfl⟩,h1.then ?_⟩
 refine Comp.Zm ?_
 rw[Comp.Ze,if_pos (by show IntKind.i64.wrap (0+1)<((2:Nat):Int); decide)]
 refine⟨a.neqs,⟨by decide,rfl⟩,h2.then ?_⟩
 refine Comp.Zm ?_
 rw[Comp.Ze,if_neg (by show ¬ IntKind.i64.wrap (IntKind.i64.wrap (0+1)+1)<((2:Nat):Int); decide)]
 rfl
theorem ZhS{b:Zb}(hb:Good b)(ev:Bool)(v:Int){l:List Za}(hl:l.length≤100)(hp:∀ q ∈ l,PolOk q.p){acc:List Zd}(ha:acc.length≤1000):(Za4 b ev v l (acc,0)).Ret (acc++(l.filter (missB b ev (decide (v=1)))).map (mk5 (decide (v=1)))):=by
 refine Comp.Zh l.length (fun k s=>s=(acc++((l.take k).filter (missB b ev (decide (v=1)))).map (mk5 (decide (v=1))),(k:Int))) (fun k s hk hs=>?_) (fun s hs=>?_) (by simp)
 ·subst hs
  have hk5:∀ fl,fl=missB b ev (decide (v=1)) l[k]→(ZC v (acc++((l.take k).filter (missB b ev (decide (v=1)))).map (mk5 (decide (v=1)))) (k:Int) l[k] fl).wp (Out (fun s'=>s'=(acc++((l.take (k+1)).filter (missB b ev (decide (v=1)))).map (mk5 (decide (v=1))),((k+1:Nat):Int))) fun a=>a=acc++(l.filter (missB b ev (decide (v=1)))).map (mk5 (decide (v=1)))):=fun fl hfl=>by
   have hlen:((l.take k).filter (missB b ev (decide (v=1)))).length≤k:=Nat.le_trans (List.length_filter_le _ _) (by simp; omega)
   unfold ZC
   rw[Comp.Ze]
   by_cases c:fl=true
   ·rw[if_pos c]
    refine⟨mk5 (decide (v=1)) l[k],rfl,by simp[small]; omega,?_⟩
    show _=_
    rw[wrapN (by omega),ZZ hk,if_pos (by rw[← hfl]; exact c),List.map_append,← List.append_assoc]; rfl
   ·rw[if_neg c]
    show _=_
    rw[wrapN (by omega),ZZ hk,if_neg (by rw[← hfl]; exact c),List.append_nil]
  show (if (k:Int)<(l.length:Int) then _ else _:Comp _).wp _
  rw[Comp.Ze,if_pos (by omega)]
  refine⟨l[k],idxN hk,_,Zea hb _,?_⟩
  rw[Comp.Ze]
  cases ev with
  | true=>rw[if_pos rfl]; exact hk5 true rfl
  | false=>
   rw[if_neg (by decide),Comp.Ze]
   cases hf:(findE b l[k].id).2.2 with
   | false=>
    rw[if_neg (by decide)]
    exact hk5 true (by unfold missB; rw[hf]; rfl)
   | true=>
    rw[if_pos rfl,Comp.Ze]
    by_cases hn:(findE b l[k].id).2.1=decide (v=1)
    ·rw[if_neg (fun k=>k hn)]
     refine⟨_,Zjm (Zjw hb _) (hp _ (List.getElem_mem hk)),?_⟩
     exact hk5 _ (by unfold missB; rw[hf,decide_eq_true hn]; rfl)
    ·rw[if_pos hn]
     exact hk5 true (by unfold missB; rw[hf,decide_eq_false hn]; rfl)
 ·subst hs
  show (if ((l.length:Nat):Int)<(l.length:Int) then _ else _:Comp _).wp _
  rw[Comp.Ze,if_neg (by omega),List.take_length]
  rfl
theorem Zha{a b:Zb}(ha:Good a)(hb:Good b)(ev:Bool):(Zaz a b ev).Ret ((a.eqs.filter (missB b ev false)).map (mk5 false)++(a.neqs.filter (missB b ev true)).map (mk5 true)):=by
 have he:=ha.eqs.len
 have hn:=ha.neqs.len
 have h1:=ZhS hb ev 0 (l:=a.eqs) (by omega) ha.eqs.pols (acc:=[]) (by simp)
 have hlen:((a.eqs.filter (missB b ev false)).map (mk5 false)).length≤1000:=by rw[List.length_map]; exact Nat.le_trans (List.length_filter_le _ _) (by omega)
 have h2:=ZhS hb ev 1 (l:=a.neqs) (by omega) ha.neqs.pols (acc:=(a.eqs.filter (missB b ev false)).map (mk5 false)) hlen
 show (Comp.next _ _).wp _
 refine Comp.Zm ?_
 rw[Comp.Ze,if_pos (by show (0:Int)<((2:Nat):Int); decide)]
 refine⟨a.eqs,⟨by omega,rfl⟩,h1.then ?_⟩
 refine Comp.Zm ?_
 rw[Comp.Ze,if_pos (by show IntKind.i64.wrap (0+1)<((2:Nat):Int); decide)]
 refine⟨a.neqs,⟨by decide,rfl⟩,h2.then ?_⟩
 refine Comp.Zm ?_
 rw[Comp.Ze,if_neg (by show ¬ IntKind.i64.wrap (IntKind.i64.wrap (0+1)+1)<((2:Nat):Int); decide)]
 rfl
theorem Zmu{a b:List ByteArray}(ha:a.length≤100):(Z7 a b).Ret (decide (a=b)):=by
 unfold Z7
 by_cases hlen:a.length=b.length
 ·rw[if_neg (fun k=>k (by omega))]
  refine Comp.Zh a.length (fun k s=>s=(k:Int)∧a.take k=b.take k) (fun k s hk hs=>?_) (fun s hs=>?_) ⟨rfl,rfl⟩
  ·obtain⟨rfl,he⟩:=hs
   have hk2:k<b.length:=by omega
   rw[Comp.Ze,if_pos (by omega)]
   refine⟨a[k],idxN hk,b[k],idxN hk2,?_⟩
   rw[Comp.Ze]
   by_cases e:a[k]=b[k]
   ·rw[if_neg (fun k=>k e)]
    refine⟨wrapN (by omega),?_⟩
    rw[← List.take_append_getElem hk,← List.take_append_getElem hk2,he,e]
   ·rw[if_pos e]
    show _=_
    refine (decide_eq_false fun k'=>e ?_).symm
    simp only[k']
  ·obtain⟨rfl,he⟩:=hs
   rw[Comp.Ze,if_neg (by omega)]
   show _=_
   refine (decide_eq_true ?_).symm
   rw[List.take_length,hlen,List.take_length] at he
   exact he
 ·rw[if_pos (fun k=>hlen (by omega))]
  exact (decide_eq_false fun k=>hlen (by rw[k])).symm
def mk2(i:Int):Zd:=Zd.mk 2 ByteArray.empty i 0 0 [] false
def mk1(v:ByteArray)(i:Int):Zd:=Zd.mk 1 v i 0 0 [] false
def dropsF(n k:Nat):List Zd:=(List.range k).map fun (j:Nat)=>mk2 ((n:Int)-1-(j:Int))
def addsF(l:List ByteArray)(k:Nat):List Zd:=(List.range k).map fun (j:Nat)=>mk1 (l.getD j ByteArray.empty) (j:Int)
def diffF(a b:Zb):List Zd:=
 ((a.eqs.filter (missB b (decide (¬ a.vars=b.vars)) false)).map mk6++(a.neqs.filter (missB b (decide (¬ a.vars=b.vars)) true)).map mk6)
 ++ (if a.vars=b.vars then [] else dropsF a.vars.length a.vars.length++addsF b.vars b.vars.length)
 ++ ((b.eqs.filter (missB a (decide (¬ a.vars=b.vars)) false)).map (mk5 false)++(b.neqs.filter (missB a (decide (¬ a.vars=b.vars)) true)).map (mk5 true))
theorem ZbI(b:Zb)(ev i:Bool)(l:List Za)(mk:Za→Zd):((l.filter (missB b ev i)).map mk).length≤l.length:=by rw[List.length_map]; exact List.length_filter_le _ _
theorem Zl8{n:Nat}(hn:n≤4){acc:List Zd}(ha:acc.length≤1000):(ZgT (acc,IntKind.i64.wrap ((n:Int)-1))).Ret (acc++dropsF n n):=by
 refine Comp.Zh n (fun k s=>s=(acc++dropsF n k,(n:Int)-1-(k:Int))) (fun k s hk hs=>?_) (fun s hs=>?_) (by rw[wrap64 (by omega)]; simp[dropsF])
 ·subst hs
  have hlen:(dropsF n k).length=k:=by simp[dropsF]
  show (if 0≤(n:Int)-1-(k:Int) then _ else _:Comp _).wp _
  rw[Comp.Ze,if_pos (by omega)]
  refine⟨by simp[small]; omega,?_⟩
  show _=_
  rw[wrap64 (by omega)]
  refine Prod.ext ?_ (by simp only; omega)
  show acc++dropsF n k++[mk2 ((n:Int)-1-(k:Int))]=acc++dropsF n (k+1)
  unfold dropsF
  rw[List.range_succ,List.map_append,List.append_assoc]; rfl
 ·subst hs
  show (if 0≤(n:Int)-1-(n:Int) then _ else _:Comp _).wp _
  rw[Comp.Ze,if_neg (by omega)]
  rfl
theorem ZmB{b:Zb}(hb:b.vars.length≤4){acc:List Zd}(ha:acc.length≤1000):(ZgS b (acc,0)).Ret (acc++addsF b.vars b.vars.length):=by
 refine Comp.Zh b.vars.length (fun k s=>s=(acc++addsF b.vars k,(k:Int))) (fun k s hk hs=>?_) (fun s hs=>?_) (by simp[addsF])
 ·subst hs
  have hlen:(addsF b.vars k).length=k:=by simp[addsF]
  show (if (k:Int)<(b.vars.length:Int) then _ else _:Comp _).wp _
  rw[Comp.Ze,if_pos (by omega)]
  refine⟨b.vars[k],idxN hk,by simp[small]; omega,?_⟩
  show _=_
  rw[wrapN (by omega)]
  refine Prod.ext ?_ rfl
  show acc++addsF b.vars k++[mk1 b.vars[k] (k:Int)]=acc++addsF b.vars (k+1)
  unfold addsF
  rw[List.range_succ,List.map_append,List.append_assoc]
  show _=acc++(_++[mk1 (b.vars.getD k ByteArray.empty) (k:Int)])
  rw[getD_eq hk]
 ·subst hs
  show (if ((b.vars.length:Nat):Int)<(b.vars.length:Int) then _ else _:Comp _).wp _
  rw[Comp.Ze,if_neg (by omega)]
  rfl
theorem Znk{a b:Zb}(ha:Good a)(hb:Good b):(ZgR a b).Ret (diffF a b,0):=by
 have hv:=ha.vars
 have hw:=hb.vars
 have a1:=ha.eqs.len
 have a2:=ha.neqs.len
 have b1:=hb.eqs.len
 have b2:=hb.neqs.len
 refine⟨true,ZdJ ha,true,ZdJ hb,?_⟩
 rw[Comp.Ze,if_neg (by decide)]
 refine⟨_,Zmu (by omega),?_⟩
 unfold diffF
 by_cases e:a.vars=b.vars
 ·rw[decide_eq_true e,decide_eq_false (fun k=>k e),if_pos e]
  refine⟨_,Zg9 ha hb _,?_⟩
  rw[Comp.Ze,if_neg (by decide)]
  have l1:=ZbI b false false a.eqs mk6
  have l2:=ZbI b false true a.neqs mk6
  have l3:=ZbI a false false b.eqs (mk5 false)
  have l4:=ZbI a false true b.neqs (mk5 true)
  refine⟨_,Zha hb ha _,?_,?_⟩
  ·simp only[List.length_append,small]
   simp only[Bool.not_true] at *
   omega
  ·rw[List.append_nil]; rfl
 ·rw[decide_eq_false e,decide_eq_true e,if_neg e]
  refine⟨_,Zg9 ha hb _,?_⟩
  rw[Comp.Ze,if_pos (by decide)]
  have l1:=ZbI b true false a.eqs mk6
  have l2:=ZbI b true true a.neqs mk6
  have l3:=ZbI a true false b.eqs (mk5 false)
  have l4:=ZbI a true true b.neqs (mk5 true)
  have l5:(dropsF a.vars.length a.vars.length).length=a.vars.length:=by simp[dropsF]
  have l6:(addsF b.vars b.vars.length).length=b.vars.length:=by simp[addsF]
  refine Comp.Ret.then (Zl8 hv (by simp only[List.length_append]; simp only[Bool.not_false]; omega)) ?_
  refine Comp.Ret.then (ZmB hw (by simp only[List.length_append]; simp only[Bool.not_false]; omega)) ?_
  refine⟨_,Zha hb ha _,?_,?_⟩
  ·simp only[List.length_append,small]
   simp only[Bool.not_false] at *
   omega
  ·simp only[List.append_assoc]; rfl
end Go.EL

namespace Go.EL
open Go Go.RowKit
def xM:M:=fun i=>if i.val=0 then 1 else 0
def xxM:M:=fun i=>if i.val=0 then 2 else 0
def oneM:M:=fun _=>0
def sqP:List Zc:=[⟨ratI 1,xxM⟩,⟨ratI (-1),oneM⟩]
theorem ZnR:(Zj4 0).Ret [⟨ratI 1,xM⟩]:=Z4 (n:=40) (by decide +kernel)
theorem ZoN:(Zkb [⟨ratI 1,xM⟩] [⟨ratI 1,xM⟩]).Ret [⟨ratI 1,xxM⟩]:=Z4 (n:=40) (by decide +kernel)
theorem Zoj:(Zi6 1).Ret [⟨ratI 1,oneM⟩]:=Z4 (n:=40) (by decide +kernel)
theorem Zok:(Zi8 [⟨ratI 1,xxM⟩] [⟨ratI 1,oneM⟩]).Ret sqP:=Z4 (n:=40) (by decide +kernel)
theorem Zmp:PolOk sqP where
 ord:=by unfold sqP; simp only[List.pairwise_cons,List.mem_singleton,forall_eq,List.not_mem_nil]; exact⟨by decide +kernel,fun _ h=>absurd h id,List.Pairwise.nil⟩
 trm t ht:=by
  unfold sqP at ht
  rcases List.mem_cons.1 ht with rfl|ht
  ·exact⟨⟨1,rfl,by decide,by decide,by decide⟩,by decide +kernel⟩
  ·rcases List.mem_cons.1 ht with rfl|ht
   ·exact⟨⟨-1,rfl,by decide,by decide,by decide⟩,by decide +kernel⟩
   ·exact absurd ht List.not_mem_nil
 len:=by decide
def e1E:Zd:=Zd.mk 1 Zn 0 0 0 [] false
def e2E:Zd:=Zd.mk 5 ByteArray.empty 0 0 0 sqP false
def sanS:Zb:=⟨[Zn],[⟨1,sqP⟩],[],2⟩
theorem ZmX:checkF oneS e1E=0:=by decide +kernel
theorem ZmZ:doF oneS e1E=⟨[Zn],[],[],1⟩:=rfl
theorem ZmY:checkF ⟨[Zn],[],[],1⟩ e2E=0:=by decide +kernel
theorem Zm0:doF ⟨[Zn],[],[],1⟩ e2E=sanS:=rfl
theorem Zoi:allF oneS [e1E,e2E] 0=⟨sanS,2,0⟩:=by
 unfold allF
 rw[if_pos ZmX,ZmZ]
 unfold allF
 rw[if_pos ZmY,Zm0]
 rfl
theorem ZkK:Good sanS:=by
 have h1:=Zdg.edit (e:=e1E) Zdz ZmX
 rw[ZmZ] at h1
 have h2:=h1.edit (e:=e2E) Zmp ZmY
 rwa [Zm0] at h2
def e3E:Zd:=Zd.mk 2 ByteArray.empty 0 0 0 [] false
def e4E:Zd:=Zd.mk 5 ByteArray.empty 0 0 0 [] false
theorem ZfK{e:Zd}(h:-1000≤e.kind∧e.kind≤1000):KindOk e:=h
theorem ZoS:(applyF sanS e3E).2=333:=by decide +kernel
theorem ZoT:checkF sanS e4E=0:=by decide +kernel
theorem ZoU:(applyF oneS zeroEd).2=1:=by decide +kernel
theorem Zml:ZeA.Ret true:=by
 have hd:(Zd1 oneS [e1E,e2E]).Ret ⟨sanS,2,0⟩:=by
  rw[← Zoi]
  refine Znq (by simp) (fun e he=>?_) Zdg
  rcases List.mem_cons.1 he with rfl|he
  ·exact⟨Zdz,ZfK (by decide)⟩
  ·rcases List.mem_cons.1 he with rfl|he
   ·exact⟨Zmp,ZfK (by decide)⟩
   ·exact absurd he List.not_mem_nil
 refine⟨_,ZnR,_,ZnR,_,ZoN,_,Zoj,_,Zok,⟨sanS,2,0⟩,hd,?_⟩
 rw[Comp.Ze,if_neg (fun k=>k rfl),Comp.Ze,if_neg (fun k=>k rfl),Comp.Ze,if_neg (fun k=>k rfl),Comp.Ze,if_neg (fun k=>k rfl)]
 refine⟨⟨1,sqP⟩,⟨by decide,rfl⟩,?_⟩
 rw[Comp.Ze,if_neg (fun k=>k rfl),Comp.Ze,if_neg (fun k=>k rfl)]
 refine⟨⟨1,sqP⟩,⟨by decide,rfl⟩,true,Zjo Zmp,?_⟩
 rw[Comp.Ze,if_neg (by decide)]
 refine⟨_,Zdt ZkK (e:=e3E) Zdz (ZfK (by decide)),_,ZkU ZkK (e:=e4E) Zdz (ZfK (by decide)),_,Zdt Zdg (e:=zeroEd) Zdz (ZfK (by decide)),_,Znk Zdg Zdg,?_⟩
 rw[Comp.Ze,if_pos ZoS]
 have e4:invF sanS e4E=(⟨6,ByteArray.empty,0,0,2,[],false⟩,0):=by unfold invF; rw[if_pos ZoT]; rfl
 rw[e4,Comp.Ze,if_pos rfl]
 refine⟨true,Zkl Zdz,?_⟩
 show (if _ then _ else _:Comp _).wp _
 rw[Comp.Ze,if_pos ZoU,Comp.Ze,if_pos rfl]
 rfl
structure DescsOk (l:List Zx):Prop where
 ok:∀ x ∈ l,DescOk x
end Go.EL

namespace Go.Proofs.YtenaadodnembpaaGreat
open Go Go.EL Go.RowKit Go.Proofs
def ok26(x:ZF):Prop:=(∀ y ∈ x.t,∀ i,(Lit.int .i8 (y i)).wf=true)
def ok76(x:Zx):Prop:=((Lit.int .u8 x.kind).wf=true)∧((Lit.int .u8 x.a).wf=true)∧((Lit.int .u8 x.b).wf=true)∧((Lit.int .u8 x.n).wf=true)∧(ok26 x.p)
theorem opens26(W:World):Opens Tryz.prog W 26 Zhj (ok26):=by
 have h:=Opens.struct (W:=W) Tryz.underlying26 (by kernel_rfl) (OpensF.last rfl (by kernel_rfl) (Opens.sl Tryz.underlying24 (by kernel_rfl) (by decide) (Opens.vec Tryz.underlying112 Tryz.underlying23 (by kernel_rfl) (by kernel_rfl)))) (fun (x:ZF)=>x.t) (fun y=>⟨y⟩) (fun _=>rfl)
 exact h
theorem opens76(W:World):Opens Tryz.prog W 76 ZcO (ok76):=by
 have h:=Opens.struct (W:=W) Tryz.underlying76 (by kernel_rfl) (OpensF.cons rfl (by kernel_rfl) (Opens.int Tryz.underlying5) (OpensF.cons rfl (by kernel_rfl) (Opens.int Tryz.underlying5) (OpensF.cons rfl (by kernel_rfl) (Opens.int Tryz.underlying5) (OpensF.cons rfl (by kernel_rfl) (Opens.int Tryz.underlying5) (OpensF.last rfl (by kernel_rfl) (opens26 W)))))) (fun (x:Zx)=>(x.kind,x.a,x.b,x.n,x.p)) (fun y=>⟨y.1,y.2.1,y.2.2.1,y.2.2.2.1,y.2.2.2.2⟩) (fun _=>rfl)
 exact h
theorem ZoM{x:ZF}(h:ok26 x):RawOk x:=fun v hv j=>wf_i8 (h v hv j)
theorem Zn4{x:Zx}(h:ok76 x):DescOk x:=⟨wf_u8 h.1,wf_u8 h.2.1,wf_u8 h.2.2.1,wf_u8 h.2.2.2.1,ZoM h.2.2.2.2⟩
set_option maxRecDepth 100000 in
theorem ZnD{W:World}{base:Nat}{v:Value}{H:Type}{enc:TypeId×Value→H}{b:Nat}{d:DataW H}{ps:List MemPlace}(hok:Value.okWide Tryz.prog W .any base 22 v)(h:DataW.Trod enc Tryz.prog W b (fun _=>true) true 22 v d ps):∃ p cap l,v = .slice p (List.length l) cap∧SlR ZcO (allMem W) (.slice p l.length cap) l∧∀ y ∈ l,DescOk y:=by
 obtain⟨p,cap,l,h1,h2,h3⟩:=Zlj Tryz.underlying22 (by kernel_rfl) (by decide) (opens76 W) hok h
 exact⟨p,cap,l,h1,h2,fun y hy=>Zn4 (h3 y hy)⟩
end Go.Proofs.YtenaadodnembpaaGreat

namespace Go.Proofs
open Go.Shelf
def Tryz.Zm3:Go.Shelf.Ren:=⟨fun|14=>209|20=>221|21=>222|22=>223|23=>224|24=>225|25=>226|26=>227|27=>228|46=>231|47=>232|48=>233|49=>234|50=>235|15=>210|57=>236|28=>229|29=>230|n=>n,fun|24=>101|22=>37|3=>3|25=>198|4=>4|0=>0|46=>217|45=>216|50=>169|66=>223|39=>152|55=>155|70=>227|76=>229|77=>230|53=>156|5=>5|9=>9|n=>n,fun|n=>n⟩
theorem Tryz.sortL:Go.Proofs.SlLaysF0.n14 Tryz.prog Tryz.Zm3:={
 mixed:=by kernel_rfl
 f14:=⟨Tryz.f209.name,by decide,Tryz.func209.trans (congrArg some (by kernel_rfl))⟩
 f15:=Tryz.func210.trans (congrArg some (by kernel_rfl))
 f20:=⟨Tryz.f221.name,by decide,Tryz.func221.trans (congrArg some (by kernel_rfl))⟩
 f21:=⟨Tryz.f222.name,by decide,Tryz.func222.trans (congrArg some (by kernel_rfl))⟩
 f22:=⟨Tryz.f223.name,by decide,Tryz.func223.trans (congrArg some (by kernel_rfl))⟩
 f23:=⟨Tryz.f224.name,by decide,Tryz.func224.trans (congrArg some (by kernel_rfl))⟩
 f24:=⟨Tryz.f225.name,by decide,Tryz.func225.trans (congrArg some (by kernel_rfl))⟩
 f25:=⟨Tryz.f226.name,by decide,Tryz.func226.trans (congrArg some (by kernel_rfl))⟩
 f26:=⟨Tryz.f227.name,by decide,Tryz.func227.trans (congrArg some (by kernel_rfl))⟩
 f27:=⟨Tryz.f228.name,by decide,Tryz.func228.trans (congrArg some (by kernel_rfl))⟩
 f28:=Tryz.func229.trans (congrArg some (by kernel_rfl))
 f29:=Tryz.func230.trans (congrArg some (by kernel_rfl))
 f46:=⟨Tryz.f231.name,by decide,Tryz.func231.trans (congrArg some (by kernel_rfl))⟩
 f47:=Tryz.func232.trans (congrArg some (by kernel_rfl))
 f48:=Tryz.func233.trans (congrArg some (by kernel_rfl))
 f49:=⟨Tryz.f234.name,by decide,Tryz.func234.trans (congrArg some (by kernel_rfl))⟩
 f50:=⟨Tryz.f235.name,by decide,Tryz.func235.trans (congrArg some (by kernel_rfl))⟩
 f57:=⟨Tryz.f236.name,by decide,Tryz.func236.trans (congrArg some (by kernel_rfl))⟩
 t0:=Tryz.underlying0
 a0:=Tryz.isAgg0
 z0:=Tryz.sizeOf0
 v0:=Tryz.zeroValue0
 t3:=Tryz.underlying3
 a3:=Tryz.isAgg3
 z3:=Tryz.sizeOf3
 v3:=Tryz.zeroValue3
 t4:=Tryz.underlying4
 a4:=Tryz.isAgg4
 z4:=Tryz.sizeOf4
 v4:=Tryz.zeroValue4
 t5:=Tryz.underlying5
 a5:=Tryz.isAgg5
 z5:=Tryz.sizeOf5
 v5:=Tryz.zeroValue5
 t9:=Tryz.underlying9
 a9:=Tryz.isAgg9
 z9:=Tryz.sizeOf9
 v9:=Tryz.zeroValue9
 t22:=Tryz.underlying37
 a22:=Tryz.isAgg37
 z22:=Tryz.sizeOf37
 v22:=Tryz.zeroValue37
 t25:=Tryz.underlying198
 a25:=Tryz.isAgg198
 z25:=Tryz.sizeOf198
 v25:=Tryz.zeroValue198
 t39:=Tryz.underlying152
 a39:=Tryz.isAgg152
 z39:=Tryz.sizeOf152
 v39:=Tryz.zeroValue152
 t45:=Tryz.underlying216
 a45:=Tryz.isAgg216
 z45:=Tryz.sizeOf216
 v45:=Tryz.zeroValue216
 t46:=Tryz.underlying217
 a46:=Tryz.isAgg217
 z46:=Tryz.sizeOf217
 v46:=Tryz.zeroValue217
 t50:=Tryz.underlying169
 a50:=Tryz.isAgg169
 z50:=Tryz.sizeOf169
 v50:=Tryz.zeroValue169
 t53:=Tryz.underlying156
 a53:=Tryz.isAgg156
 z53:=Tryz.sizeOf156
 v53:=Tryz.zeroValue156
 t55:=Tryz.underlying155
 a55:=Tryz.isAgg155
 z55:=Tryz.sizeOf155
 v55:=Tryz.zeroValue155
 t66:=Tryz.underlying223
 a66:=Tryz.isAgg223
 z66:=Tryz.sizeOf223
 v66:=Tryz.zeroValue223
 t70:=Tryz.underlying227
 a70:=Tryz.isAgg227
 z70:=Tryz.sizeOf227
 v70:=Tryz.zeroValue227
 t76:=Tryz.underlying229
 a76:=Tryz.isAgg229
 z76:=Tryz.sizeOf229
 v76:=Tryz.zeroValue229
 t77:=Tryz.underlying230
 a77:=Tryz.isAgg230
 z77:=Tryz.sizeOf230
 v77:=Tryz.zeroValue230 }
end Go.Proofs

namespace Go.Proofs.YtenaadodnembpaaGreat
open Go Go.EL Go.RowKit Go.Proofs
abbrev i'(x:Int):Value:=.int .i64 x
abbrev sl{α:Type}(r:Rp α)(G:Mem)(p:Option Addr)(c:Nat)(xs:List α):Prop:=SlR r G (.slice p xs.length c) xs
abbrev v58'(x:Zg)(magp:Option Addr)(magc:Nat):List Value:=[.bool x.neg,.slice magp x.mag.length magc]
abbrev v68'{α:Type}(i:Int)(p:Option Addr)(xs:List α)(c:Nat):List Value:=[.int .i64 i,.slice p xs.length c]
abbrev v33'(x:Zb)(varsp:Option Addr)(varsc:Nat)(eqsp:Option Addr)(eqsc:Nat)(neqsp:Option Addr)(neqsc:Nat):List Value:=[.slice varsp x.vars.length varsc,.slice eqsp x.eqs.length eqsc,.slice neqsp x.neqs.length neqsc,.int .i64 x.next]
abbrev a':=@Zar
abbrev b':=@WE.then
abbrev e':=@Y0.loadL
abbrev f':=@Y0.move
abbrev g':=@WE.thenRet
abbrev h':=@WC.seq
abbrev j':=@WC.ret
abbrev k':=@WE.ret1
abbrev l':=@Y0.pickF
abbrev m':=@WE.thenExit
abbrev n':=@WC.skip
abbrev o':=@Y0.pickT
abbrev q':=@Tryz.underlying31
abbrev r':=@ZaZ
abbrev s':=@Y0.loadLA
abbrev t':=@YC.of
abbrev u':=@WL.nil
abbrev v':=@WL.storeLA
abbrev w':=@WC.region
abbrev x':=@WE.inBlockRet
abbrev y':=@Tryz.underlying30
abbrev A':=@WC.block
abbrev B':=@Tryz.underlying56
abbrev C':=@Ctr.enter
abbrev D':=@WE.inBlock
abbrev E':=@At.mono
abbrev F':=@Zg3
abbrev H':=@WL.call0
abbrev I':=@WC.cr
abbrev J':=@WE.exitHere
abbrev K':=@Y0.extract
abbrev L':=@Y0.lenR
abbrev M':=@WL.call
abbrev N':=@Y0.add
abbrev O':=@WE.backR
abbrev P':=@Y0.idxR
abbrev Q':=@Zng
abbrev R':=@Tryz.underlying38
abbrev T':=@Y0.loadG
abbrev U':=@WL.alloc
abbrev V':=@Y0.lss
abbrev W':=@WL.box
abbrev X':=@SlR.at
abbrev Y':=@Chain.tail0
abbrev Z':=@WC.drawn
abbrev aa':=@SlR.nil
abbrev ab':=@WC.meetH
abbrev ac':=@WC.loopR
abbrev ad':=@RV.cellA
abbrev ae':=@WC.exit
abbrev af':=@WE.endH
abbrev ag':=@ag33
abbrev ah':=@ZhT
abbrev ai':=@ZhM
abbrev aj':=@WL.cr
abbrev ak':=@Y0.eql
abbrev al':=@Tryz.underlying155
abbrev am':=@WE.nx
abbrev an':=@Y0.not
abbrev ao':=@Tryz.underlying35
abbrev ap':=@Tryz.underlying156
abbrev aq':=@Y0.build
abbrev ar':=@WE.midH
abbrev as':=@Y0.Zoo
abbrev at':=@WC.condT
abbrev au':=@Tryz.underlying3
abbrev av':=@Y0.loadLP
abbrev aw':=@WL.storeL
abbrev ax':=@Y0.loadGA
abbrev ay':=@Chain.callU
abbrev az':=@Y0.Zop
abbrev aA':=@AtK.via
abbrev aB':=@Y0.Zou
abbrev aC':=@AtK.int
abbrev aD':=@Y0.conv
abbrev aE':=@WE.conseq
abbrev aF':=@WL.skip
abbrev aG':=@Tryz.underlying99
abbrev aH':=@WE.endRet
abbrev aI':=@WE.ret2
abbrev aJ':=@AtK.snd
abbrev aK':=@Y0.Zoq
abbrev aL':=@Y0.Zow
abbrev aM':=@WC.crB
abbrev aN':=@Zog
abbrev aO':=@sz68
abbrev aP':=@Y0.ZoD
abbrev aQ':=@Y0.neq
abbrev aR':=@Tryz.underlying9
abbrev aS':=@sc31
abbrev aT':=@Tryz.underlying5
abbrev aU':=@WL.litR
abbrev aV':=@WC.seqH
abbrev aW':=@CtrL.enter
abbrev aX':=@Y0.idxA0
abbrev aY':=@sz33
abbrev aZ':=@Y0.idxRow
abbrev ba':=@Tryz.underlying83
abbrev bb':=@AtK.fst
abbrev bc':=@Y0.ZoG
abbrev bd':=@Ziw
abbrev be':=@Y0.geq
abbrev bf':=@Y0.sub
abbrev bg':=@Y0.Zor
abbrev bh':=@WC.condF
abbrev bi':=@sz156
abbrev bj':=@Chain.y0UU
abbrev bk':=@Zd3
abbrev bl':=@ag58
abbrev bm':=@Chain.alloc
abbrev bn':=@Y0.Zn6
abbrev bo':=@sc30
abbrev bp':=@Y0.ZoC
abbrev bq':=@Y0.ZoH
abbrev bs':=@Zgu
abbrev bt':=@Y0.gtr
abbrev bu':=@WL.conseq
abbrev bv':=@WL.freezeT
abbrev bw':=@ag40
abbrev bx':=@Tryz.underlying117
abbrev by':=@WL.storeT
abbrev bz':=@Y0.rem
abbrev bA':=@ZlK
abbrev bB':=@AtK.str
abbrev bC':=@sz101
abbrev bD':=@Y0.leq
abbrev bE':=@WC.knowBox
abbrev bF':=@sz40
abbrev bG':=@Chain.call0
abbrev bH':=@sc156
abbrev bJ':=@sc56
abbrev bK':=@Tryz.underlying4
abbrev bL':=@ag68
abbrev bM':=@Y0.Zos
abbrev bN':=@Chain.floatUD
abbrev bO':=@Chain.tailU1
abbrev bP':=@sc38
abbrev bQ':=@ZcO
abbrev bR':=@Y0.makeFunc
abbrev bS':=@ag60
abbrev bT':=@WL.unX
abbrev bU':=@AtK.sl
abbrev bV':=@Y0.Zot
abbrev bW':=@WL.appendT
abbrev bX':=@ZnN
abbrev bY':=@Chain.cr
abbrev ca':=@ag99
abbrev cc':=@Chain.tailX4
abbrev cd':=@Tryz.underlying79
abbrev ce':=@Y0.ZoF
abbrev cf':=@FnRd.form
abbrev cg':=@Y0.Zn5
abbrev ci':=@WL.adopt
abbrev cj':=@WL.callT
abbrev ck':=@ArRd.size
abbrev cn':=@At.box
abbrev co':=@Y0.Zoz
abbrev cp':=@Y0.ZoE
abbrev cr':=@Y0.Zov
abbrev cu':=@sz31
abbrev cw':=@Tryz.underlying23
abbrev cx':=@Rp.vec
abbrev cE':=@WL.appendR
abbrev cF':=@Zle
abbrev cG':=@Zld
abbrev cI':=@Y0.Zox
abbrev cK':=@RowR.at
abbrev cM':=@YC.ofV
abbrev cN':=@Y0.eq
abbrev cO':=@Chain.float
abbrev cP':=@WL.forget
abbrev cQ':=@Y0.slcN
abbrev cR':=@SlR.std
abbrev cU':=@Chain.callUU
abbrev cV':=@Chain.floatB
abbrev cY':=@SlR.eqv
abbrev cZ':=@AtK.vec
abbrev db':=@Zl5
abbrev dc':=@Y0.Zoy
abbrev df':=@Chain.tailU2
abbrev dg':=@FnR.of0
abbrev dh':=@Ctr.pre
abbrev dk':=@Y0.indexS
abbrev dl':=@Y0.ZoB
abbrev dm':=@WL.copyOwn
abbrev dv':=@Chain.appendOwn
abbrev dw':=@WL.mapIns
abbrev dx':=@Chain.tailX2
abbrev dz':=@Tryz.underlying152
abbrev dA':=@Tryz.underlying176
abbrev dD':=@WE.freezeT
abbrev dG':=@Tryz.underlying22
abbrev dH':=@Tryz.underlying61
abbrev dI':=@Y0.quo
abbrev dJ':=@Y0.mul
abbrev dN':=@WC.condD
abbrev dO':=@Tryz.underlying2
abbrev dP':=@WL.makeT
abbrev dQ':=@Y0.loadT
abbrev dS':=@Y0.lenC
abbrev dT':=@Y0.lenRow
abbrev dU':=@Y0.loadTA
abbrev dW':=@ArRd.zero
abbrev ea':=@Zd2
abbrev ed':=@RowR.nil
abbrev ee':=@Y0.neqB
abbrev ef':=@Tok.full
abbrev eo':=@Tryz.underlying186
abbrev es':=@Y0.ZoA
abbrev et':=@Chain.y0U
abbrev eu':=@Chain.callROU
abbrev ev':=@ZjW
abbrev eA':=@Tryz.underlying24
abbrev eC':=@Chain.litU
end Go.Proofs.YtenaadodnembpaaGreat

