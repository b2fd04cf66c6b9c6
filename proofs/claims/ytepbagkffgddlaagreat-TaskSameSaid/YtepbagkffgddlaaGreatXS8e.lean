/- The law TaskSame holds for every input: a part of its proof (fT the code does, plain models, and fT they return). No condition. -/
import Derived.Test.YtepbagkffgddlaaGreatXS8d
import Derived.Test.YtepbagkffgddlaaGreatXS8c
import Derived.Test.YtepbagkffgddlaaGreatXS8b
set_option linter.unusedVariables false
set_option linter.unusedSimpArgs false
namespace Go.EL
open Go.IntKind (i8 i16 i32 i64 u8 u16 u32 u64)
open Go Go.RowKit
structure gG (n:Nat) (π:M):Prop where
 perm:Ì π
 fix:∀i:Fin 8,n<=i.val->π i=(i.val:Int)
def jB(n:Nat)(π:M):Bool:=decide (∀i,0<=π i/\π i<8)&&decide (∀i j,π i=π j->i=j)&&decide (∀i:Fin 8,n<=i.val->π i=(i.val:Int))
theorem gG.of{n:Nat}{π:M}(h:jB n π=true):gG n π:=by unfold jB at h;simp only[Ĉ,Ę]at h;exact⟨⟨h.1.1,h.1.2⟩,h.2⟩
theorem Zw7:((Α 1).all (jB 1)&&(Α 2).all (jB 2)&&(Α 3).all (jB 3)&&(Α 4).all (jB 4))=true:=by decide +kernel
theorem oe{n:Nat}(h:1<=n/\n<=4){π:M}(hp:π∈Α n):gG n π:=by
 have:=Zw7;simp only[Ĉ,Ć]at this;obtain⟨⟨⟨a,h2⟩,h3⟩,c⟩:=this;have d:n=1\/n=2\/n=3\/n=4:=ŉ;rcases d with rfl|rfl|rfl|rfl
 .exact .of (a π hp)
 .exact .of (h2 π hp)
 .exact .of (h3 π hp)
 exact .of (c π hp)
theorem S2{n:Nat}(h:1<=n/\n<=4):(Fl (n:Int)).Γ (Α n):=by
 have a:n=1\/n=2\/n=3\/n=4:=ŉ;rcases a with rfl|rfl|rfl|rfl<;>exact Cq.Γ.mf 60 (by decide +kernel)
theorem tX{n:Nat}:Α n=(λi:Fin 8=>(i.val:Int))::(Α n).tail:=rfl
theorem K5{n:Nat}(d:n<=8){π:M}(h:gG n π){p:Ù}(hp:Β p)(f:Ð p (n:Int)=true):Ð (Ο π p) (n:Int)=true:=by
 obtain⟨e,h2⟩:=(pC d).1 f;refine(pC d).2 ⟨λt a i hi=>?_,λt a=>?_⟩
 .obtain⟨y,c,rfl⟩:=Ğ.1 ((rh h.perm hp.ord).1.mem_iff.1 a);show ¬0<fx π y.m i;rw[ug h.perm y.m i i (h.fix i hi).symm];exact e y c i hi
 obtain⟨y,c,rfl⟩:=Ğ.1 ((rh h.perm hp.ord).1.mem_iff.1 a);show fG (fx π y.m)<=12;rw[K2 h.perm];exact h2 y c
theorem Zw5{π:M}(h:Ì π){p:Ù}(hp:Β p):(Ο π p).length=p.length:=by rw[(rh h hp.ord).1.length_eq,ć]
theorem Zyn{π:M}(h:Ì π){p:Ù}(hp:Β p)(a:p≠[]):Ο π p≠[]:=λe=>by have:=Zw5 h hp;rw[e]at this;exact a (abq.1 this.symm)
theorem Zzk{p q:Ù}(hp:Β p)(e:Β q)(h:∀d,-1<=d->((∀t∈p,fG t.m<=d)↔∀t∈q,fG t.m<=d)):gk p=gk q:=by
 have low:∀r:Ù,-1<=gk r:=λr=>by
  have key:∀k,-1<=fH r k:=by
   intro k;induction k with
   |zero=>exact ŝ _
   |succ k a=>
    unfold fH;split
    .split<;>omega
    exact a
  exact key _
 have c:=(tC (low q)).2 ((h _ (low q)).2 ((tC (low q)).1 (ŝ _)));have h2:=(tC (low p)).2 ((h _ (low p)).1 ((tC (low p)).1 (ŝ _)));omega
theorem Zw4{π:M}(h:Ì π){p:Ù}(hp:Β p):gk (Ο π p)=gk p:=by
 refine Zzk (Z1 h hp) hp (λd _=>⟨λa t c=>?_,λa t c=>?_⟩)
 .have:=a (jg π t) ((rh h hp.ord).1.mem_iff.2 (Ğ.2 ⟨t,c,rfl⟩));have e:fG (jg π t).m=fG t.m:=K2 h t.m;omega
 obtain⟨y,f,rfl⟩:=Ğ.1 ((rh h hp.ord).1.mem_iff.1 c);have:=a y f;have e:fG (jg π y).m=fG y.m:=K2 h y.m;omega
theorem ZzX{n:Nat}(h:n<=4):Ð iW (n:Int)=true:=(pC ŉ).2 ⟨λt a i _=>by rw[iW,Ē]at a;subst a;exact Int.lt_irrefl 0,λt a=>by rw[iW,Ē]at a;subst a;decide⟩
theorem ZzW:gk iW=0:=ĳ
theorem TE{l:Ŀ Ù}{plain:Bool}{q:Ù}(h:q∈kept l plain):∃p∈l,q=à p/\p≠[]/\(plain=true->gk p≠0):=by
 obtain⟨a,h2⟩:=Ō.1 h;obtain⟨p,hp,rfl⟩:=Ğ.1 a;unfold gZ at h2;simp only[Ĉ,Ő,aaC]at h2;refine⟨p,hp,rfl,λe=>?_,λe=>?_⟩
 .rw[e]at h2;cases h2.1
 rcases h2.2 with h2|h2
 .rw[e]at h2;cases h2
 rw[xF]at h2;exact aaV h2
theorem ZzN{l:Ŀ Ù}{plain:Bool}{p:Ù}(hp:p∈l)(c:p≠[])(d:plain=true->gk p≠0):à p∈kept l plain:=by
 refine Ō.2 ⟨Ğ.2 ⟨p,hp,rfl⟩,?_⟩;have a:(à p).isEmpty=false:=by simpa using λe=>c (Bm.1 e)
 unfold gZ;rw[a,xF];cases plain with
 |false=>rfl
 |true=>rw[ċ (d rfl)];rfl
theorem Vf{n:Nat}(e:n<=4){least:Int}{l:Ŀ Ù}(a:(er l).length<=12)(h:∀p∈l,Β p/\Ð p (n:Int)=true/\p≠[]/\à p=p/\least<=gk p):iO (n:Int) least (er l):=by obtain⟨c,d⟩:=FZ (l:=l) (λp hp=>(h p hp).1.gu);exact⟨a,λp hp=>h p ((d p).1 hp),c⟩
theorem UM{n:Nat}(f:1<=n/\n<=4){eqs δ:Ŀ Ù}(g:∀p∈eqs,Β p/\Ð p (n:Int)=true)(hi:∀p∈δ,Β p/\Ð p (n:Int)=true)(j:(er (hV eqs δ)).length<=12)(k:(er (kept δ true)).length<=12):
  æ ⟨(n:Int),er (hV eqs δ),er (kept δ true)⟩ where
 n:=by show 1<=(n:Int)/\(n:Int)<=4;omega
 eqs:=Vf f.2 j λp hp=>by
  rcases Ĩ.1 hp with h|h
  .obtain⟨q,d,rfl,c,_⟩:=TE h;have a:=(g q d).1;exact⟨vF a,by rw[T6];exact(g q d).2,λe=>c (Bm.1 e),S1 a,by rw[xF];exact Km a c⟩
  rw[LW p h];exact⟨Bv,ZzX f.2,ĳ,LV,by rw[ZzW];decide⟩
 δ:=Vf f.2 k λp hp=>by obtain⟨q,d,rfl,c,i⟩:=TE hp;have a:=(hi q d).1;have:=Km a c;have:=i rfl;exact⟨vF a,by rw[T6];exact(hi q d).2,λe=>c (Bm.1 e),S1 a,by rw[xF];omega⟩
def é(k:Zc)(π:M):Zc:=(im k.n (k.eqs.map (Ο π)) (k.δ.map (Ο π))).1
theorem Li{l:Ŀ Ù}(h:∀p∈l,p≠[]):gM l=[]:=by unfold gM;rw[List.filter_eq_nil_iff.2 λp hp=>by simpa using h p hp];rfl
structure Ai (k:Zc) (π:M):Prop where
 norm:im k.n (k.eqs.map (Ο π)) (k.δ.map (Ο π))=(é k π,0)
 eq:é k π=⟨k.n,er (hV (k.eqs.map (Ο π)) (k.δ.map (Ο π))),er (kept (k.δ.map (Ο π)) true)⟩
 core:æ (é k π)
theorem Gv{l:Ŀ Ù}{n:Nat}{least:Int}(g:n<=4)(h:iO (n:Int) least l){π:M}(a:gG n π):∀p∈l.map (Ο π),Β p/\Ð p (n:Int)=true/\p≠[]/\least<=gk p:=λp hp=>by obtain⟨q,d,rfl⟩:=Ğ.1 hp;obtain⟨c,e,f,q4,q5⟩:=h.hN q d;exact⟨Z1 a.perm c,K5 ŉ a c e,Zyn a.perm c f,by rw[Zw4 a.perm c];exact q5⟩
theorem k8{k:Zc}(h:æ k){π:M}(a:gG k.n.toNat π):Ai k π:=by
 obtain⟨n,eqs,δ⟩:=k;obtain⟨m,rfl,t,f⟩:=vG h.n;dsimp only at a⊢;rw[Ĕ]at a;have e:=Gv f h.eqs a;have hi:=Gv f h.δ a;have r:(er (hV (eqs.map (Ο π)) (δ.map (Ο π)))).length<=12:=by have g:=Gq (hV (eqs.map (Ο π)) (δ.map (Ο π)));have i:=vx (eqs.map (Ο π)) false;have j:=h.eqs.len;unfold hV at g;rw[Li (λp hp=>(hi p hp).2.2.1),ę]at g;unfold hV;rw[Li (λp hp=>(hi p hp).2.2.1),ę];rw[ć]at i;dsimp only at j;omega
 have s:(er (kept (δ.map (Ο π)) true)).length<=12:=by have g:=Gq (kept (δ.map (Ο π)) true);have i:=vx (δ.map (Ο π)) true;have j:=h.δ.len;rw[ć]at i;dsimp only at j;omega
 have q:=UM ⟨t,f⟩ (λp hp=>⟨(e p hp).1,(e p hp).2.1⟩) (λp hp=>⟨(hi p hp).1,(hi p hp).2.1⟩) r s;have c:(eqs.map (Ο π)++δ.map (Ο π)).all (λp=>Ð p (m:Int))=true:=Ć.2 λp hp=>(Ĩ.1 hp).elim (λh=>(e p h).2.1) (λh=>(hi p h).2.1);have l:im (m:Int) (eqs.map (Ο π)) (δ.map (Ο π))=(⟨(m:Int),er (hV (eqs.map (Ο π)) (δ.map (Ο π))),er (kept (δ.map (Ο π)) true)⟩,0):=by unfold im;rw[ą ⟨ŉ,ŉ⟩,ą c,ā ŉ,ā ŉ]
 have d:é ⟨(m:Int),eqs,δ⟩ π=⟨(m:Int),er (hV (eqs.map (Ο π)) (δ.map (Ο π))),er (kept (δ.map (Ο π)) true)⟩:=by unfold é;dsimp only;rw[l]
 exact⟨by rw[l,d],d,by rw[d];exact q⟩
theorem QV{l:Ŀ Ù}(i:l.length<=100)(h:∀p∈l,Β p){π:M}(g:Ì π):(Av l π).Γ (l.map (Ο π)):=by
 refine⟨⟨ŉ,ŉ⟩,?_⟩;refine Cq.Zo l.length (λk s=>s=((l.take k).map (Ο π)++List.replicate (l.length-k) [],(k:Int))) (λk s c f=>?_) (λs f=>?_) (by show _=_;simp)
 .subst f;have a:((l.take k).map (Ο π)++List.replicate (l.length-k) ([]:Ù)).length=l.length:=ab0;refine Cq.wp.yes ŉ ⟨_,Ξ c,_,Ay g (h _ (ă c)),_,Ξ (by rw[a];exact c),?_⟩;show _=_;rw[χ ŉ,Ĕ,č c,Ī,List.map_singleton];congr 1;rw[List.set_append,ā (by rw[ć,Č];omega)];have e:l.length-k=(l.length-(k+1))+1:=ŉ;have d:k-((l.take k).map (Ο π)).length=0:=ab0;rw[d,e,aai,aa3,Đ];rfl
 subst f;refine Cq.wp.no ŉ ?_;show _=_;rw[ě (ĉ _)];simp
theorem JA{k:Zc}(h:æ k){π:M}(a:gG k.n.toNat π):(AF k π).Γ (é k π):=by
 have f:=h.eqs.len;have g:=h.δ.len;refine Cq.Zo k.eqs.length (λj s=>s=((k.eqs.take j).map (Ο π),(j:Int))) (λj s c d=>?_) (λs d=>?_) rfl
 .subst d;refine Cq.wp.yes ŉ ⟨_,Ξ c,_,Ji a.perm (h.eqs.hN _ (ă c)).1,?_,?_⟩
  .simp only[Ā,ć,Č,ė,small];omega
  show _=_;rw[χ ŉ,č c,Ī];rfl
 subst d;refine Cq.wp.no ŉ ?_;rw[ě (ĉ _)];show(Pw k π (k.eqs.map (Ο π))).Γ _;refine Cq.Zo k.δ.length (λj s=>s=((k.δ.take j).map (Ο π),(j:Int))) (λj s c d=>?_) (λs d=>?_) rfl
 .subst d;refine Cq.wp.yes ŉ ⟨_,Ξ c,_,Ji a.perm (h.δ.hN _ (ă c)).1,?_,?_⟩
  .simp only[Ā,ć,Č,ė,small];omega
  show _=_;rw[χ ŉ,č c,Ī];rfl
 subst d;refine Cq.wp.no ŉ ?_;rw[ě (ĉ _)];show(Pv k (k.eqs.map (Ο π)) (k.δ.map (Ο π))).Γ _;refine⟨_,Rm (by rw[ć];omega) (by rw[ć];omega) (λp hp=>?_) (λp hp=>?_),rfl⟩
 .obtain⟨q,e,rfl⟩:=Ğ.1 hp;exact Z1 a.perm (h.eqs.hN q e).1
 obtain⟨q,e,rfl⟩:=Ğ.1 hp;exact Z1 a.perm (h.δ.hN q e).1
def fk(k:Zc):Ŀ M->Zc×M->Zc×M
 |[],s=>s
 |π::l,s=>fk k l (if Op.bytesLess (ü (é k π)).toList (ü s.1).toList=true then(é k π,π)else s)
def Θ(k:Zc):Zc×M:=fk k (Α k.n.toNat).tail (é k (λi=>(i.val:Int)),λi=>(i.val:Int))
theorem SD(k:Zc):∀(l:Ŀ M) (s:Zc×M) (π:M),fk k (l++[π]) s=(if Op.bytesLess (ü (é k π)).toList (ü (fk k l s).1).toList=true then(é k π,π)else fk k l s)
 |[],_,_=>rfl
 |x::l,s,π=>SD k l _ π
theorem Mi{k:Zc}(h:æ k):∀{l:Ŀ M}{s:Zc×M},(∀π∈l,gG k.n.toNat π)->æ s.1->æ (fk k l s).1
 |[],_,_,a=>a
 |π::l,s,c,a=>by
  unfold fk;refine Mi h (λx d=>c x (by simp[d])) ?_;split
  .exact (k8 h (c π ß)).core
  exact a
theorem RZ(l:Ŀ Int):(bytesOf l).size=l.length:=by
 have key:∀(l:Ŀ Int) (b:Ĳ),(l.foldl (λr n=>r.push (UInt8.ofNat n.toNat)) b).size=b.size+l.length:=by
  intro l;induction l with
  |nil=>intro b;rfl
  |cons x l a=>intro b;rw[List.foldl_cons,a,ByteArray.size_push,Ě];omega
 have:=key l ByteArray.empty;unfold bytesOf;rw[this];simp
theorem YO(k:Zc):ü k≠ByteArray.empty:=λe=>by
 have a:=RZ (gY k);have h2:(ü k).size=0:=by rw[e];rfl
 unfold ü at h2;rw[a]at h2;have:1<=(lx k.n).length:=by unfold lx fw iG;split<;>simp
 unfold gY at h2;simp only[Ā]at h2;omega
theorem R0{k:Zc}(h:æ k){π:M}(a:gG k.n.toNat π){s:Zc×M×Ĳ}:
  (r6 k π s).Γ (if s.2.2=ByteArray.empty then(é k π,π,ü (é k π))else if Op.bytesLess (ü (é k π)).toList s.2.2.toList=true then(é k π,π,ü (é k π))else s):=by
 have e:=h.eqs.len
 have f:=h.δ.len
 have hp:=k8 h a
 refine⟨_,QV ŉ (λp hp=>(h.eqs.hN p hp).1) a.perm,_,QV ŉ (λp hp=>(h.δ.hN p hp).1) a.perm,(é k π,0),?_,Cq.wp.no (λh=>h rfl) ⟨_,zd hp.core,?_⟩⟩
 .rw[<-hp.norm]
  refine Ztm (by rw[ć];omega) (by rw[ć];omega) (λp hp=>?_) (λp hp=>?_)
  .obtain⟨q,d,rfl⟩:=Ğ.1 hp
   exact Z1 a.perm (h.eqs.hN q d).1
  obtain⟨q,d,rfl⟩:=Ğ.1 hp
  exact Z1 a.perm (h.δ.hN q d).1
 by_cases c:s.2.2=ByteArray.empty
 .rw[ą c];exact Cq.wp.yes c rfl
 rw[ā c]
 refine Cq.wp.no c ?_
 by_cases h2:Op.bytesLess (ü (é k π)).toList s.2.2.toList=true
 .refine Cq.wp.yes h2 ?_
  show _=_
  rw[ą h2]
 refine Cq.wp.no h2 ?_
 show _=_
 rw[ā h2]
theorem Kk{k:Zc}(h:æ k):∀{l:Ŀ M}{c:Zc}{f:M},(∀π∈l,gG k.n.toNat π)->(nc k l (c,f,ü c)).Γ ((fk k l (c,f)).1,(fk k l (c,f)).2,ü (fk k l (c,f)).1)
 |[],_,_,_=>rfl
 |π::l,c,f,a=>by
  refine⟨_,R0 h (a π ß),?_⟩;dsimp only;rw[ā (YO c)];unfold fk;split
  .exact Kk h (λx d=>a x (by simp[d]))
  exact Kk h (λx d=>a x (by simp[d]))
theorem kR{k:Zc}(h:æ k):∀π∈Α k.n.toNat,gG k.n.toNat π:=λ_ hp=>oe (by have:=h.n;omega) hp
theorem AW{k:Zc}(h:æ k):(wT k).Γ (Θ k):=by refine⟨h.n,((Θ k).1,(Θ k).2,ü (Θ k).1),?_,rfl⟩;have hp:=kR h;rw[tX]at hp⊢;refine⟨_,R0 h (hp _ ß),?_⟩;rw[ą rfl];exact Kk h (λx a=>hp x (by simp[a]))
theorem ZuV{k:Zc}(h:æ k):(Lf k).Γ (Θ k):=by
 have hp:=kR h;obtain⟨n,t,y,A⟩:=vG h.n;have c:k.n.toNat=n:=ŉ;have a:(Α n).length<=24:=by
  have e:n=1\/n=2\/n=3\/n=4:=ŉ;rcases e with rfl|rfl|rfl|rfl<;>decide +kernel
 unfold Θ;rw[c]at hp⊢;refine⟨Α n,by rw[t];exact S2 ⟨y,A⟩,?_⟩;rw[tX]at hp a⊢;generalize (Α n).tail=l at *;generalize q:(λi:Fin 8=>(i.val:Int))=ι at *;rw[Ě]at a;refine⟨ι,⟨ĳ,rfl⟩,_,JA h (by rw[c];exact hp ι ß),ι,⟨ĳ,rfl⟩,?_⟩;have u:æ (é k ι):=(k8 h (by rw[c];exact hp ι ß)).core;refine Cq.Zo l.length (λj s=>s=(((j+1:Nat):Int),(fk k (l.take j) (é k ι,ι)).1,(fk k (l.take j) (é k ι,ι)).2)) (λj s r oq=>?_) (λs oq=>?_) rfl
 .subst oq;have g:gG k.n.toNat l[j]:=by rw[c];exact hp _ ß
  have p:æ (fk k (l.take j) (é k ι,ι)).1:=Mi h (λx v=>by rw[c];exact hp x (by simp[Ŝ v])) u;have d:j+1<(ι::l).length:=by rw[Ě];omega
  have e:(ι::l)[j+1]=l[j]:=rfl;refine Cq.wp.yes (by rw[Ě];omega) ⟨_,Ξ d,_,by rw[e];exact JA h g,_,Tk (k8 h g).core,_,Tk p,?_⟩;have m:i64.wrap (((j+1:Nat):Int)+1)=((j+1+1:Nat):Int):=χ ŉ;rw[č r,SD];by_cases f:Op.bytesLess (ü (é k l[j])).toList (ü (fk k (l.take j) (é k ι,ι)).1).toList=true
  .rw[ą f];refine Cq.wp.yes f ⟨_,Ξ d,?_⟩;show _=_;rw[m];rfl
  rw[ā f];refine Cq.wp.no f ?_;show _=_;rw[m]
 subst oq;refine Cq.wp.no (by rw[Ě];omega) ?_;rw[ě (ĉ _)];rfl
end Go.EL

namespace Go.EL
open Go.IntKind (i8 i16 i32 i64 u8 u16 u32 u64)
open Go Go.RowKit
def kW{α:Type}(S:α->Prop)(w:α->Ŀ Int):Prop:=∀a b x y,S a->S b->w a++x=w b++y->w a=w b/\x=y
theorem kW.both{α:Type}{S:α->Prop}{f g:α->Ŀ Int}(j:kW S f)(k:kW S g):kW S λa=>f a++g a:=λa b x y c d h=>by have h:(f a++g a)++x=(f b++g b)++y:=h;show f a++g a=f b++g b/\_;rw[Đ,Đ]at h;obtain⟨e,h2⟩:=j a b _ _ c d h;obtain⟨h3,i⟩:=k a b _ _ c d h2;exact⟨by rw[e,h3],i⟩
theorem kW.of{α β:Type}{S:α->Prop}{T:β->Prop}{w:β->Ŀ Int}(h:kW T w)(g:α->β)(c:∀a,S a->T (g a)):kW S λa=>w (g a):=λa b x y d f e=>h _ _ x y (c a d) (c b f) e
theorem kW.len{α:Type}{S:α->Prop}{w:α->Ŀ Int}(k:Nat)(h:∀a,S a->(w a).length=k):kW S w:=λa b _ _ c d e=>List.append_inj e (by rw[h a c,h b d])
theorem HR(n:Int):u8.wrap n=n % 256:=rfl
theorem Tn:∀(f:Nat) {n m:Int}{x y:Ŀ Int},(0<=n/\n<128*128 ^ f/\n<18446744073709551616)->(0<=m/\m<128*128 ^ f/\m<18446744073709551616)->iG f n++x=iG f m++y->n=m/\x=y
 |0,n,m,x,y,c,a,h=>by simp only[iG,ĸ,ļ,ŏ,HR]at h;have:(128:Int)*128 ^ 0=128:=rfl;exact⟨ŉ,h.2⟩
 |f+1,n,m,x,y,c,a,h=>by
  have hp:(128:Int)*128 ^ (f+1)=128*(128*128 ^ f):=by rw[Int.pow_succ];omega
  have key:∀{z:Int},(0<=z/\z<128*128 ^ (f+1)/\z<18446744073709551616)->u64.wrap (Int.tdiv z 128)=z / 128/\Int.tmod z 128=z % 128:=λ{z} d=>by obtain⟨d0,d1⟩:=qx d.1;exact⟨by rw[d1];exact qG ⟨ŉ,ŉ⟩,ŕ d.1⟩
  obtain⟨i,j⟩:=key c;obtain⟨e,g⟩:=key a;unfold iG at h;rw[i,j,e,g]at h;simp only[HR]at h;split at h
  .split at h
   .simp only[ĸ,ŏ]at h;obtain⟨k,h2⟩:=Tn f (n:=n / 128) (m:=m / 128) ⟨ŉ,ŉ,ŉ⟩ ⟨ŉ,ŉ,ŉ⟩ h.2;exact⟨ŉ,h2⟩
   simp only[ĸ,ļ,ŏ]at h;omega
  split at h
  .simp only[ĸ,ļ,ŏ]at h;omega
  simp only[ĸ,ļ,ŏ]at h;exact⟨ŉ,h.2⟩
theorem LQ{n m:Int}{x y:Ŀ Int}(c:0<=n/\n<18446744073709551616)(a:0<=m/\m<18446744073709551616)(h:fw n++x=fw m++y):n=m/\x=y:=by have:(128:Int)*128 ^ 10=151115727451828646838272:=ĳ;exact Tn 10 ⟨c.1,ŉ,c.2⟩ ⟨a.1,ŉ,a.2⟩ h
theorem pe(n:Int):0<=u64.wrap n/\u64.wrap n<18446744073709551616:=by rw[abr];omega
theorem Vb{α:Type}(S:α->Prop)(g:α->Int):kW S λa=>fw (u64.wrap (g a)):=λa b x y _ _ h=>by obtain⟨c,h2⟩:=LQ (pe _) (pe _) h;exact⟨by show fw _=fw _;rw[c],h2⟩
theorem Ls{α:Type}{S:α->Prop}{w:α->Ŀ Int}(h:kW S w):∀{l m:Ŀ α}{x y:Ŀ Int},l.length=m.length->(∀a∈l,S a)->(∀a∈m,S a)->l.flatMap w++x=m.flatMap w++y->l.flatMap w=m.flatMap w/\x=y
 |[],[],_,_,_,_,_,e=>⟨rfl,e⟩
 |[],_::_,_,_,d,_,_,_=>by cases d
 |_::_,[],_,_,d,_,_,_=>by cases d
 |a::l,b::m,x,y,d,g,h2,e=>by rw[ř,ř,Đ,Đ]at e;obtain⟨i,j⟩:=h a b _ _ (g a ß) (h2 b ß) e;obtain⟨k,q4⟩:=Ls h (l:=l) (m:=m) (by simpa using d) (λc f=>g c (by simp[f])) (λc f=>h2 c (by simp[f])) j;exact⟨by rw[ř,ř,i,k],q4⟩
theorem TG{α:Type}{S:α->Prop}{w:α->Ŀ Int}(h:kW S w):kW (λl:Ŀ α=>l.length<=1000000/\∀a∈l,S a) λl=>fw (u64.wrap (l.length:Int))++l.flatMap w:=λl m x y d f e=>by have e:(fw (u64.wrap (l.length:Int))++l.flatMap w)++x=(fw (u64.wrap (m.length:Int))++m.flatMap w)++y:=e;show fw _++_=fw _++_/\_;rw[Đ,Đ]at e;obtain⟨c,h2⟩:=LQ (pe _) (pe _) e;rw[xK d.1,xK f.1]at c;have c:l.length=m.length:=ŉ;obtain⟨h3,g⟩:=Ls h c d.2 f.2 h2;exact⟨by rw[c,h3],g⟩
theorem U3:kW (λa:Zg=>a.υ.length<=1000000) lr:=λa b x y j k e=>by
 unfold lr at e⊢;rw[Đ,Đ]at e;have g:∀c:Zg,c.υ.length<=1000000->(if c.neg=true then u64.wrap (u64.wrap (2*u64.wrap (c.υ.length:Int))+1)else u64.wrap (2*u64.wrap (c.υ.length:Int)))=2*(c.υ.length:Int)+if c.neg=true then 1 else 0:=λc l=>by rw[xK l,qG (x:=2*(c.υ.length:Int)) ⟨ŉ,ŉ⟩,qG (x:=2*(c.υ.length:Int)+1) ⟨ŉ,ŉ⟩];split<;>omega
 rw[g a j,g b k]at e⊢;obtain⟨f,h2⟩:=LQ (by split<;>omega) (by split<;>omega) e;have h3:a.υ.length=b.υ.length:=by split at f<;>split at f<;>omega
 obtain⟨h,i⟩:=Ls (S:=λ_=>True) (kW.len 4 λd _=>Lg d) h3 (λ_ _=>trivial) (λ_ _=>trivial) h2;exact⟨by rw[f,h],i⟩
theorem Zz5:kW (λa:Zf=>a.num.υ.length<=1000000/\a.den.υ.length<=1000000) mu:=kW.both (U3.of _ λa h=>h.1) (U3.of _ λa h=>h.2)
theorem U8(S:(Fin 8->Int)->Prop):∀k,kW S λm=>iF m k
 |0=>λ_ _ _ _ _ _ e=>⟨rfl,e⟩
 |k+1=>kW.both (U8 S k) (Vb S _)
theorem ZyK:kW (λt:Za=>t.c.num.υ.length<=1000000/\t.c.den.υ.length<=1000000) fW:=kW.both (Zz5.of _ λa h=>h) ((U8 (λ_=>True) 8).of _ λa _=>trivial)
theorem Β.code{p:Ù}(h:Β p):p.length<=1000000/\∀t∈p,t.c.num.υ.length<=1000000/\t.c.den.υ.length<=1000000:=⟨by have:=h.len;omega,λt c=>by
 obtain⟨a,e,d,h2,h3⟩:=(h.tm t c).c;have f:t.c.num.υ.length<=1/\t.c.den.υ.length<=1:=by
  have:(ã (-12) 12 λa=>decide ((ý a).num.υ.length<=1/\(ý a).den.υ.length<=1))=true:=by decide +kernel
  rw[e];exact ĥ (Zq this (x:=a) ŉ ŉ)
 omega⟩
theorem Zyp:kW Β fD:=λa b x y c d e=>TG ZyK a b x y c.code d.code e
theorem SZ:kW (λl:Ŀ Ù=>l.length<=1000000/\∀p∈l,Β p) fS:=TG Zyp
theorem æ.code{k:Zc}(h:æ k):(k.eqs.length<=1000000/\∀p∈k.eqs,Β p)/\k.δ.length<=1000000/\∀p∈k.δ,Β p:=
 ⟨⟨by have:=h.eqs.len;omega,λp hp=>(h.eqs.hN p hp).1⟩,by have:=h.δ.len;omega,λp hp=>(h.δ.hN p hp).1⟩
theorem ZxZ:kW æ gY:=kW.both (kW.both (Vb _ _) (SZ.of _ λa h=>h.code.1)) (SZ.of _ λa h=>h.code.2)
def ma(l:Ŀ Int):Prop:=∀n∈l,0<=n/\n<256
theorem ma.append{a b:Ŀ Int}(h:ma a)(k:ma b):ma (a++b):=λn c=>(Ĩ.1 c).elim (h n) (k n)
theorem HQ(n:Int):0<=u8.wrap n/\u8.wrap n<256:=by rw[HR];omega
theorem uf:∀(f:Nat) (n:Int),ma (iG f n)
 |0,n=>λm a=>by rw[Ē.1 a];exact HQ _
 |f+1,n=>λm a=>by
  unfold iG at a;split at a
  .rcases Ď.1 a with rfl|a
   .exact HQ _
   exact uf f _ m a
  rw[Ē.1 a];exact HQ _
theorem F4{α:Type}{w:α->Ŀ Int}(h:∀a,ma (w a))(l:Ŀ α):ma (l.flatMap w):=λn c=>by obtain⟨a,_,h2⟩:=List.mem_flatMap.1 c;exact h a n h2
theorem ZxA(d:Int):ma (fE d):=λn a=>by
 simp only[fE,Ď,ĝ,Ť]at a;rcases a with rfl|rfl|rfl|rfl<;>exact HQ _
theorem TC(a:Zg):ma (lr a):=(uf _ _).append (F4 ZxA _)
theorem TM(m:Fin 8->Int):∀k,ma (iF m k)
 |0=>λ_ h=>by cases h
 |k+1=>(TM m k).append (uf _ _)
theorem Zxs(t:Za):ma (fW t):=((TC _).append (TC _)).append (TM _ 8)
theorem SY(p:Ù):ma (fD p):=(uf _ _).append (F4 Zxs _)
theorem Sd(l:Ŀ Ù):ma (fS l):=(uf _ _).append (F4 SY _)
theorem SK(k:Zc):ma (gY k):=((uf _ _).append (Sd _)).append (Sd _)
theorem Zu7(l:Ŀ Int):∀r:Ĳ,(l.foldl (λr n=>r.push (UInt8.ofNat n.toNat)) r).data.toList=r.data.toList++l.map λn=>UInt8.ofNat n.toNat:=by
 induction l with
 |nil=>intro r;simp
 |cons n l a=>
  intro r;rw[List.foldl_cons,a];simp[ByteArray.push]
theorem AQ(l:Ŀ Int):(bytesOf l).data.toList=l.map λn=>UInt8.ofNat n.toNat:=by unfold bytesOf;rw[Zu7];rfl
theorem UG:∀{l m:Ŀ Int},ma l->ma m->(l.map λn=>UInt8.ofNat n.toNat)=(m.map λn=>UInt8.ofNat n.toNat)->l=m
 |[],[],_,_,_=>rfl
 |[],_::_,_,_,h=>by cases h
 |_::_,[],_,_,h=>by cases h
 |a::l,b::m,d,h2,h=>by rw[ġ,ġ,ŏ]at h;have e:=đ UInt8.toNat h.1;rw[UInt8.toNat_ofNat',UInt8.toNat_ofNat']at e;have f:=d a ß;have k2:=h2 b ß;rw[UG (λn c=>d n (by simp[c])) (λn c=>h2 n (by simp[c])) h.2];congr 1;omega
theorem Ztp{l m:Ŀ Int}(a:ma l)(h2:ma m)(h:bytesOf l=bytesOf m):l=m:=by refine UG a h2 ?_;rw[<-AQ,<-AQ,h]
theorem Zv6{a b:Ĳ}(h:a.data.toList=b.data.toList):a=b:=by cases a;cases b;have h:=ż h;dsimp only at h;rw[h]
theorem JB(l m:Ŀ Int):bytesOf l++bytesOf m=bytesOf (l++m):=by refine Zv6 ?_;rw[AQ,Ī,<-AQ,<-AQ];simp
end Go.EL

namespace Go.EL
open Go.IntKind (i8 i16 i32 i64 u8 u16 u32 u64)
open Go Go.RowKit
def Da(p:Ù):Bool:=decide (p.Pairwise λx y=>0<Ý x.m y.m)&&p.all (λt=>fo t.c&&decide (∀i,0<=t.m i/\t.m i<=65535))&&decide (p.length<=100)
theorem Β.of{p:Ù}(h:Da p=true):Β p:=by unfold Da at h;simp only[Ĉ,Ę,Ć]at h;obtain⟨⟨c,h2⟩,h3⟩:=h;refine⟨c,λt a=>⟨?_,(h2 t a).2⟩,h3⟩;obtain⟨n,e,d,f,g⟩:=ue (h2 t a).1;exact⟨n,e,d,f,g⟩
end Go.EL

namespace Go.EL
open Go.IntKind (i8 i16 i32 i64 u8 u16 u32 u64)
open Go Go.RowKit
theorem Vj{c:Cq Bool}{P:Prop}(h:c.wp λb=>(b=true↔P)):(P/\c.Γ true)\/(¬P/\c.Γ false):=by
 by_cases hp:P
 .exact .inl ⟨hp,c.mono (λb a=>a.2 hp) h⟩
 exact .inr ⟨hp,c.mono (λb a=>by cases b with
  |true=>exact absurd (a.1 rfl) hp
  |false=>rfl) h⟩
structure pr (n:Nat) (next:Int) (l:Ŀ Zn) (k:Nat):Prop where
 ids:∀i (h:i<l.length),i<k->1<=l[i].id/\l[i].id<next
 inc:∀i (h:i+1<l.length),i+1<k->l[i].id<l[i+1].id
 hN:∀i (h:i<l.length),i<k->Β l[i].p/\Ð l[i].p (n:Int)=true
theorem Zzc{l:Ŀ Zn}(h:∀i (h:i+1<l.length),l[i].id<l[i+1].id):l.Pairwise λa b=>a.id<b.id:=by
 have key:∀d i (c:i+d+1<l.length),l[i].id<l[i+d+1].id:=by
  intro d;induction d with
  |zero=>intro i c;exact h i c
  |succ d g=>
   intro i c;have k:=g i ŉ;have h2:=h (i+d+1) ŉ;have e:l[i+(d+1)+1]=l[i+d+1+1]:=rfl;rw[e];omega
 refine Ģ.2 λi j hi m f=>?_;have:=key (j-i-1) i ŉ;have e:i+(j-i-1)+1=j:=ŉ;simp only[e]at this;exact this
theorem pr.all{n:Nat}{next:Int}{l:Ŀ Zn}(h:pr n next l l.length)(c:l.length<=12):hP n next l where
 len:=c
 ids:=λq a=>by obtain⟨i,hi,rfl⟩:=Ŕ a;exact h.ids i hi hi
 inc:=Zzc λi hi=>h.inc i hi hi
 hN:=λq a=>by obtain⟨i,hi,rfl⟩:=Ŕ a;exact h.hN i hi hi
theorem pr.zero(n:Nat)(next:Int)(l:Ŀ Zn):pr n next l 0:=⟨λ_ _ h=>absurd h (ı _),λ_ _ h=>absurd h (ı _),λ_ _ h=>absurd h (ı _)⟩
end Go.EL

namespace Go.EL
open Go.IntKind (i8 i16 i32 i64 u8 u16 u32 u64)
open Go Go.RowKit
end Go.EL

namespace Go.EL
open Go.IntKind (i8 i16 i32 i64 u8 u16 u32 u64)
open Go Go.RowKit
theorem Vc(n:Nat)(next:Int):hP n next []:=⟨ß,λq a=>absurd a ĝ,List.Pairwise.nil,λq a=>absurd a ĝ⟩
end Go.EL

namespace Go.EL
open Go.IntKind (i8 i16 i32 i64 u8 u16 u32 u64)
open Go Go.RowKit
structure ig (x:ZA):Prop where
 n:0<=x.n/\x.n<=255
 l:∀y∈x.l,ja y
 ik:∀g∈x.ik,0<=g/\g<=255
theorem LO{y:Zu}(h:ja y){n:Nat}(e:n<=4){d:Int}(d0:0<=d)(d12:d<=12){k:Nat}(f:k<=4):Β (iE y n d k)/\Ð (iE y n d k) (n:Int)=true:=by
 have a:=Zyd h e d0 k;refine⟨a.hN ŉ ŉ ŉ,(pC ŉ).2 ⟨λt c i hi=>?_,λt c=>?_⟩⟩
 .have:=(a.yc t c).2.1 i hi;omega
 have:=(a.yc t c).2.2;omega
theorem hP.XR{n:Nat}{next a:Int}{l:Ŀ Zn}(h:hP n next l)(h2:next<=a):hP n a l:=⟨h.len,λq c=>⟨(h.ids q c).1,Œ (h.ids q c).2 h2⟩,h.inc,h.hN⟩
theorem hP.snoc{n:Nat}{next:Int}{l:Ŀ Zn}(h:hP n next l)(g:l.length<12){i:Int}{p:Ù}(hp:Β p/\Ð p (n:Int)=true)(f:1<=next)(hi:next<=i):hP n (i+1) (l++[⟨i,p⟩]) where
 len:=by rw[Ā,ė];omega
 ids:=λq c=>by
  rcases Ĩ.1 c with c|c
  .have:=h.ids q c;omega
  rw[Ē]at c;subst c;show 1<=i/\i<i+1;omega
 inc:=by rw[ew];refine⟨h.inc,ū _ _,λa e b d=>?_⟩;rw[Ē]at d;subst d;have:=h.ids a e;show a.id<i;omega
 hN:=λq c=>by
  rcases Ĩ.1 c with c|c
  .exact h.hN q c
  rw[Ē]at c;subst c;exact hp
def eL(x:ZA)(k:Nat):Int:=if 0<x.ik.length then Int.tmod (x.ik.getD (k % x.ik.length) 0) 4 else 0
def ò(x:ZA)(n:Nat):Nat->Ŀ Zn×Ŀ Zn×Int
 |0=>([],[],1)
 |k+1=>
  if k % 3=2 then((ò x n k).1,(ò x n k).2.1++[⟨(ò x n k).2.2+eL x k,iE (x.l.getD k ⟨[]⟩) n 2 3⟩],(ò x n k).2.2+eL x k+1)
  else((ò x n k).1++[⟨(ò x n k).2.2+eL x k,iE (x.l.getD k ⟨[]⟩) n 2 3⟩],(ò x n k).2.1,(ò x n k).2.2+eL x k+1)
theorem Ztw(x:ZA)(n k:Nat):ò x n (k+1) =
  if k % 3=2 then((ò x n k).1,(ò x n k).2.1++[⟨(ò x n k).2.2+eL x k,iE (x.l.getD k ⟨[]⟩) n 2 3⟩],(ò x n k).2.2+eL x k+1)
  else((ò x n k).1++[⟨(ò x n k).2.2+eL x k,iE (x.l.getD k ⟨[]⟩) n 2 3⟩],(ò x n k).2.1,(ò x n k).2.2+eL x k+1):=rfl
theorem Vx{x:ZA}(h:ig x)(k:Nat):0<=eL x k/\eL x k<=3:=by
 unfold eL;split
 .rename_i hp;have a:k % x.ik.length<x.ik.length:=x9 _ hp;have c:=h.ik (x.ik[k % x.ik.length]) (ă a);rw[ģ,Ą a,Ř];have:=zm c.1 (show(0:Int)<4 by decide);omega
 omega
structure Ag (n:Nat) (k:Nat) (s:Ŀ Zn×Ŀ Zn×Int):Prop where
 next:1<=s.2.2/\s.2.2<=1+4*k
 eqs:hP n s.2.2 s.1
 δ:hP n s.2.2 s.2.1
 apart:∀a∈s.1,∀b∈s.2.1,a.id≠b.id
 len:s.1.length+s.2.1.length<=k
theorem Zyy{x:ZA}(h:ig x)(k:Nat):ja (x.l.getD k ⟨[]⟩):=by
 rw[ģ];cases a:x.l[k]? with
 |none=>exact λv c=>by cases c
 |some y=>exact h.l y (ń a)
theorem KU{x:ZA}(h:ig x){n:Nat}(j:n<=4):∀k,k<=6->Ag n k (ò x n k)
 |0,_=>⟨⟨ŝ 1,(by decide:(1:Int)<=1+4*0)⟩,Vc _ _,Vc _ _,λa c=>absurd c ĝ,ĉ 0⟩
 |k+1,q=>by
  have f:=KU h j k ŉ;obtain⟨m,p⟩:=Vx h k;have hp:=LO (Zyy h k) j (d:=2) ĳ ĳ (k:=3) ĳ;have l:=f.next;have r:=f.len;unfold ò;generalize ò x n k=s at *;obtain⟨e,i,nx⟩:=s;dsimp only at *;by_cases h3:k % 3=2
  .rw[ą h3];refine⟨⟨by show 1<=nx+eL x k+1;omega,by show nx+eL x k+1<=_;omega⟩,f.eqs.XR (by show nx<=nx+eL x k+1;omega),f.δ.snoc (by show i.length<12;omega) hp (by show 1<=nx;omega) (by show nx<=nx+eL x k;omega),λa c b g=>?_,by show e.length+(i++[_]).length<=k+1;rw[Ā,ė];omega⟩;rcases Ĩ.1 g with g|g
   .exact f.apart a c b g
   rw[Ē]at g;subst g;have:=(f.eqs.ids a c).2;show a.id≠nx+eL x k;dsimp only at this;omega
  rw[ā h3];refine⟨⟨by show 1<=nx+eL x k+1;omega,by show nx+eL x k+1<=_;omega⟩,f.eqs.snoc (by show e.length<12;omega) hp (by show 1<=nx;omega) (by show nx<=nx+eL x k;omega),f.δ.XR (by show nx<=nx+eL x k+1;omega),λa c b g=>?_,by show(e++[_]).length+i.length<=k+1;rw[Ā,ė];omega⟩;rcases Ĩ.1 c with c|c
  .exact f.apart a c b g
  rw[Ē]at c;subst c;have:=(f.δ.ids b g).2;show nx+eL x k≠b.id;dsimp only at this;omega
def gn:Ŀ Ĳ:=[AJ,AI,AH]
theorem Zvs:(gn.all jf&&decide (gn.Pairwise λa b=>a≠b))=true:=by decide +kernel
def jm(x:ZA):Nat:=x.n.toNat % 4
def iV(x:ZA):Zx:=⟨gn.take (jm x),(ò x (jm x) (min x.l.length 6)).1,(ò x (jm x) (min x.l.length 6)).2.1,(ò x (jm x) (min x.l.length 6)).2.2⟩
theorem Bu(x:ZA):jm x<4:=x9 _ ĳ
theorem Fz(x:ZA):(gn.take (jm x)).length=jm x:=by have:=Bu x;rw[Č];show min _ 3=_;omega
theorem Zvo{x:ZA}(h:ig x):Good (iV x)/\(iV x).eqs.length+(iV x).δ.length<=6:=by
 have f:=Bu x;have hi:=KU h (n:=jm x) ŉ (min x.l.length 6) ŉ;have a:=Zvs;simp only[Ĉ,Ć,Ę]at a;have e:=hi.len;have d:=hi.next;refine⟨⟨by show(gn.take _).length<=4;rw[Fz];omega,λv c=>a.1 v (Ŝ c),a.2.sublist (List.take_sublist _ _),⟨d.1,?_⟩,?_,?_,hi.apart⟩,?_⟩
 .show (ò x (jm x) (min x.l.length 6)).2.2<=1000000;omega
 .show hP (gn.take _).length _ _;rw[Fz];exact hi.eqs
 .show hP (gn.take _).length _ _;rw[Fz];exact hi.δ
 show(ò x (jm x) (min x.l.length 6)).1.length+(ò x (jm x) (min x.l.length 6)).2.1.length<=6;omega
theorem tl{x:ZA}(h:ig x):i64.wrap (Int.tmod x.n 4)=((jm x:Nat):Int):=by
 obtain⟨a,c⟩:=h.n;have e:Int.tmod x.n 4=((jm x:Nat):Int):=by rw[ŕ a];unfold jm;omega
 have:=Bu x;rw[e,wrap64 ŉ]
theorem ZuJ{x:ZA}(h:ig x):(FX x).Γ (iV x):=by
 have C:=Bu x;unfold FX;rw[tl h];refine⟨⟨ŝ 0,ŉ,by show((jm x:Nat):Int)<=3;omega⟩,?_⟩;have g:∀s:Ŀ Zn×Ŀ Zn×Int,s=ò x (jm x) (min x.l.length 6)->(Kb ((gn.take ((jm x:Nat):Int).toNat).drop (0:Int).toNat) s.1 s.2.1 s.2.2).Γ (iV x):=λs m=>by subst m;show _=_;rw[Ĕ];rfl
 refine Cq.Zo (min x.l.length 6) (λk s=>s=((k:Int),(gn.take ((jm x:Nat):Int).toNat).drop (0:Int).toNat,(ò x (jm x) k).1,(ò x (jm x) k).2.1,(ò x (jm x) k).2.2)) (λk s B m=>?_) (λs m=>?_) rfl
 .subst m;have hi:=KU h (n:=jm x) ŉ k ŉ;have i:k<x.l.length:=ŉ;have D:=hi.next;have v:=hi.len;obtain⟨y,A⟩:=Vx h k;refine Cq.wp.yes ŉ (Cq.wp.yes ŉ ?_);have key:(EU x (k:Int) ((gn.take ((jm x:Nat):Int).toNat).drop (0:Int).toNat) (ò x (jm x) k).1 (ò x (jm x) k).2.1 (ò x (jm x) k).2.2 (eL x k)).wp (Out (λs=>s=(((k+1:Nat):Int),(gn.take ((jm x:Nat):Int).toNat).drop (0:Int).toNat,(ò x (jm x) (k+1)).1,(ò x (jm x) (k+1)).2.1,(ò x (jm x) (k+1)).2.2)) λo=>(match o with|(e,f,c,d)=>Kb e f c d).wp λa=>a=iV x):=by
   refine⟨_,Ξ i,iE x.l[k] (jm x) 2 3,?_,?_⟩
   .rw[tl h];exact Lw (h.l _ (ă i)) ŉ ĳ ĳ (k:=3) ĳ
   have t:x.l.getD k ⟨[]⟩=x.l[k]:=by rw[ģ,Ą i];rfl
   have u:i64.wrap ((ò x (jm x) k).2.2+eL x k)=(ò x (jm x) k).2.2+eL x k:=wrap64 ŉ;have j:i64.wrap ((ò x (jm x) k).2.2+eL x k+1)=(ò x (jm x) k).2.2+eL x k+1:=wrap64 ŉ;have p:Int.tmod (k:Int) 3=((k % 3:Nat):Int):=by rw[ŕ ŉ];omega
   rw[Ztw];by_cases h3:k % 3=2
   .rw[ą h3];refine Cq.wp.yes (by rw[p];omega) ⟨?_,?_⟩
    .rw[Ā,ė];simp only[small];omega
    show _=_;rw[χ ŉ,u,j,t]
   rw[ā h3];refine Cq.wp.no (by rw[p];omega) ⟨?_,?_⟩
   .rw[Ā,ė];simp only[small];omega
   show _=_;rw[χ ŉ,u,j,t]
  show(EV x (k:Int) _ _ _ _).wp _;unfold EV;by_cases r:0<x.ik.length
  .have l:k % x.ik.length<x.ik.length:=x9 _ r;have p:Int.tmod (k:Int) (x.ik.length:Int)=((k % x.ik.length:Nat):Int):=by rw[ŕ ŉ];rfl
   refine Cq.wp.yes ŉ ⟨ŉ,?_⟩;rw[p];refine⟨_,Ξ l,?_⟩;have q:eL x k=Int.tmod x.ik[k % x.ik.length] 4:=by unfold eL;rw[ą r,ģ,Ą l,Ř]
   dsimp only;rw[<-q,wrap64 ŉ];exact key
  have q:eL x k=0:=ā r;refine Cq.wp.no ŉ ?_;rw[q]at key;exact key
 subst m;by_cases v:x.l.length<=6
 .refine Cq.wp.no ŉ ?_;exact g _ rfl
 refine Cq.wp.yes ŉ (Cq.wp.no ŉ ?_);exact g _ rfl
end Go.EL

namespace Go.EL
open Go.IntKind (i8 i16 i32 i64 u8 u16 u32 u64)
open Go Go.RowKit
structure jL (k:Zc):Prop where
 n:0<=k.n/\k.n<=1000
 eqs:∀p∈k.eqs,Β p
 δ:∀p∈k.δ,Β p
 len:k.eqs.length<=12/\k.δ.length<=12
theorem jL.zero:jL iK:=⟨ĳ,λp hp=>absurd hp ĝ,λp hp=>absurd hp ĝ,ĳ⟩
theorem æ.pj{k:Zc}(h:æ k):jL k:=⟨by have:=h.n;omega,λp hp=>(h.eqs.hN p hp).1,λp hp=>(h.δ.hN p hp).1,h.eqs.len,h.δ.len⟩
theorem jL.core{k:Zc}(h:jL k):(vt [] k).Γ (gY k):=S7 h.n h.eqs h.δ h.len.1 h.len.2
theorem Zvt{n:Int}{eqs δ:Ŀ Ù}(f:∀p∈eqs,Β p)(hi:∀p∈δ,Β p):jL (im n eqs δ).1/\((im n eqs δ).2=0->æ (im n eqs δ).1):=by
 unfold im;by_cases c:1<=n/\n<=4
 .rw[ą c];by_cases a:(eqs++δ).all (λp=>Ð p n)=true
  .rw[ą a];by_cases d:12<(er (hV eqs δ)).length
   .rw[ą d];exact⟨jL.zero,λh=>absurd h ĳ⟩
   rw[ā d];by_cases h2:12<(er (kept δ true)).length
   .rw[ą h2];exact⟨jL.zero,λh=>absurd h ĳ⟩
   rw[ā h2];obtain⟨m,rfl,g,i⟩:=vG c;rw[List.all_append,Ĉ]at a;have e:=UM ⟨g,i⟩ (λp hp=>⟨f p hp,Ć.1 a.1 p hp⟩) (λp hp=>⟨hi p hp,Ć.1 a.2 p hp⟩) ŉ ŉ;exact⟨e.pj,λ_=>e⟩
  rw[ā a];exact⟨jL.zero,λh=>absurd h ĳ⟩
 rw[ā c];exact⟨jL.zero,λh=>absurd h ĳ⟩
theorem S3{l:Ŀ Zn}(d:l.length<=1000):(Fm l).Γ (l.map (·.p)):=by
 refine Cq.Zo l.length (λk s=>s=((l.take k).map (·.p),(k:Int))) (λk s c a=>?_) (λs a=>?_) rfl
 .subst a;refine Cq.wp.yes ŉ ⟨_,Ξ c,?_,?_⟩
  .simp only[Ā,ć,Č,ė,small];omega
  show _=_;rw[χ ŉ,č c,Ī];rfl
 subst a;refine Cq.wp.no ŉ ?_;rw[ě (ĉ _)];exact rfl
def ph(s:Zx):Int:=if 1<(s.vars.length:Int)then(s.vars.length:Int)else 1
def mP(s:Zx):Zc×Int:=im (ph s) (s.eqs.map (·.p)) (s.δ.map (·.p))
theorem Good.wu{s:Zx}(h:Good s):(∀p∈s.eqs.map (·.p),Β p)/\∀p∈s.δ.map (·.p),Β p:=
 ⟨λp hp=>by obtain⟨q,a,rfl⟩:=Ğ.1 hp;exact(h.eqs.hN q a).1,λp hp=>by obtain⟨q,a,rfl⟩:=Ğ.1 hp;exact(h.δ.hN q a).1⟩
theorem ZuW{s:Zx}(h:Good s):(LA s).Γ (mP s):=by have a:=h.eqs.len;have c:=h.δ.len;obtain⟨p1,p2⟩:=h.wu;exact⟨true,Zpu h,Cq.wp.no ĳ ⟨_,S3 ŉ,_,S3 ŉ,_,Rm (by rw[ć];omega) (by rw[ć];omega) p1 p2,rfl⟩⟩
theorem Vw{p:Ù}{n m:Nat}(e:n<=m)(c:m<=8)(h:Ð p (n:Int)=true):Ð p (m:Int)=true:=by obtain⟨a,h2⟩:=(pC ŉ).1 h;exact(pC c).2 ⟨λt d i hi=>a t d i ŉ,h2⟩
theorem ZxY{s:Zx}(h:Good s)(i:s.eqs.length+s.δ.length<=12):mP s=(⟨ph s,er (hV (s.eqs.map (·.p)) (s.δ.map (·.p))),er (kept (s.δ.map (·.p)) true)⟩,0)/\æ (mP s).1:=by
 have j:=h.vars;obtain⟨m,f,k,l,mv⟩:∃m:Nat,ph s=(m:Int)/\1<=m/\m<=4/\s.vars.length<=m:=by
  unfold ph;by_cases c:1<(s.vars.length:Int)
  .rw[ą c];exact⟨_,rfl,ŉ,ŉ,ĉ _⟩
  rw[ā c];exact⟨1,rfl,ŉ,ŉ,ŉ⟩
 have d:(s.eqs.map (·.p)++s.δ.map (·.p)).all (λp=>Ð p (m:Int))=true:=Ć.2 λp hp=>by
  rcases Ĩ.1 hp with hp|hp
  .obtain⟨q,a,rfl⟩:=Ğ.1 hp;exact Vw mv ŉ (h.eqs.hN q a).2
  obtain⟨q,a,rfl⟩:=Ğ.1 hp;exact Vw mv ŉ (h.δ.hN q a).2
 have n:=Gq (hV (s.eqs.map (·.p)) (s.δ.map (·.p)));have g:=TY (s.eqs.map (·.p)) (s.δ.map (·.p));have r:=Gq (kept (s.δ.map (·.p)) true);have q4:=vx (s.δ.map (·.p)) true;rw[ć,ć]at g;rw[ć]at q4;have e:mP s=(⟨ph s,er (hV (s.eqs.map (·.p)) (s.δ.map (·.p))),er (kept (s.δ.map (·.p)) true)⟩,0):=by unfold mP im;rw[f,ą ⟨ŉ,ŉ⟩,ą d,ā ŉ,ā ŉ]
 obtain⟨p1,p2⟩:=h.wu;exact⟨e,(Zvt p1 p2).2 (by show(mP s).2=0;rw[e])⟩
theorem Zz1{n:Nat}(h:1<=n/\n<=4):gG n λi=>(i.val:Int):=oe h (by rw[tX];exact aao)
theorem Zu8{k:Zc}(h:æ k):æ (Θ k).1:=by
 have hp:=kR h;have c:1<=k.n.toNat/\k.n.toNat<=4:=by have:=h.n;omega
 unfold Θ;rw[tX]at hp;exact Mi h (λx a=>hp x (by simp[a])) (k8 h (hp _ ß)).core
end Go.EL

namespace Go.EL
open Go.IntKind (i8 i16 i32 i64 u8 u16 u32 u64)
open Go Go.RowKit
abbrev Ord:=Ŀ (Fin 8->Int)
theorem To{n:Int}(h:n<0):kx n=fw (u64.wrap (u64.wrap (2*u64.wrap (i64.wrap (0-i64.wrap (n+1))))+1)):=ā ŉ
theorem Tp{n:Int}(h:¬n<0):kx n=lx n:=ą ŉ
theorem Rn{b:Ŀ Int}(n:Int)(a:b.length<=900000):(AN b n).Γ (b++kx n):=by
 by_cases h:n<0
 .refine Cq.wp.yes h ⟨_,vv (pe _) a,?_⟩;show _=_;rw[To h,aaB]
 refine Cq.wp.no h ⟨_,vv (pe _) a,?_⟩;show _=_;rw[Tp h,aaB];rfl
theorem LU(n:Int):(kx n).length<=11:=by
 by_cases h:n<0
 .rw[To h];exact re _
 rw[Tp h];exact F7 _
theorem Ga(m:Fin 8->Int):∀k,(fY m k).length<=11*k
 |0=>ĉ _
 |k+1=>by have a:=Ga m k;have h2:=LU (Η m (k:Int));show(fY m k++kx _).length<=_;rw[Ā];omega
theorem ZuY{b:Ŀ Int}{o:Ord}(q:o.length<=40)(n:b.length<=600000):(Ld b o).Γ (b++jA o):=by
 refine⟨_,vv (pe _) ŉ,?_⟩;unfold jA;have r:=re (u64.wrap (o.length:Int));generalize fw (u64.wrap (o.length:Int))=N at *;show(Cq.next _ _).wp _;refine Cq.Zo o.length (λk st=>st=(b++N++(o.take k).flatMap λm=>fY m 8,(k:Int))) (λk st d a=>?_) (λst a=>?_) (by show _=_;simp)
 .subst a;have g:=ud (K:=88) (l:=o.take k) (f:=λm=>fY m 8) (λx _=>Ga x 8);rw[Č]at g;have h:88*min k o.length<=3520:=ŉ;refine Cq.wp.yes ŉ ?_;show(Cq.next _ _).wp _;generalize c:(b++N++(o.take k).flatMap λm=>fY m 8)=B;have e:B.length<=650000:=by rw[<-c];simp only[Ā];omega
  refine Cq.Zo 8 (λj st=>st=(B++fY o[k] j,(j:Int))) (λj st p a=>?_) (λst a=>?_) (by show _=_;simp[fY])
  .subst a;have i:=Ga o[k] j;refine Cq.wp.yes ŉ ⟨_,Ξ d,⟨ŉ,ŉ⟩,_,Rn _ (by rw[Ā];omega),?_⟩;show _=_;rw[χ ŉ,Đ];rfl
  subst a;refine Cq.wp.no ĳ ?_;show _=_;rw[χ ŉ,Fw (λm=>fY m 8) o d,<-c];simp only[Đ]
 subst a;refine Cq.wp.no ŉ ?_;rw[ě (ĉ _)];show _=_;rw[Đ]
structure rK (q:Zb):Prop where
 p:Β q.p
 o:q.o.length<=40
theorem Zvv{o:Ord}(h:o.length<=40):(jA o).length<=4000:=by unfold jA;have a:=re (u64.wrap (o.length:Int));have h2:=ud (K:=88) (l:=o) (f:=λm=>fY m 8) (λx _=>Ga x 8);rw[Ā];have h3:88*o.length<=3520:=ŉ;omega
theorem LH{q:Zb}(h:rK q):(oF q).length<=20000:=by unfold oF;have a:=LU q.kind;have h2:=FA h.p;have h3:=Zvv h.o;rw[Ā,Ā];omega
def hU(q:Zb):Ĳ:=bytesOf (oF q)
theorem Ti{q:Zb}(h:rK q):(Gh q).Γ (hU q):=by have a:=LU q.kind;have h2:=FA h.p;exact⟨_,Rn (b:=[]) q.kind ĳ,_,S9 h.p (by rw[ļ];omega),_,ZuY h.o (by rw[ļ,Ā];omega),rfl⟩
theorem Mk{q:Zb}(h:rK q):(A4 q).Γ (hU q):=⟨by have:=LH h;omega,rfl⟩
theorem Tb{a b:Zb}(c:rK a)(d:rK b):(D8 a b).Γ (decide (hU a=hU b)):=⟨_,Ti c,_,Ti d,rfl⟩
theorem Fq{a b:Zc}(c:jL a)(d:jL b):(wX a b).Γ (decide (ü a=ü b)):=⟨_,c.core,_,d.core,rfl⟩
theorem Ua(m:Fin 8->Int):∀k,ma (fY m k)
 |0=>λ_ h=>by cases h
 |k+1=>(Ua m k).append (by unfold kx;split<;>exact uf _ _)
theorem Zyh(n:Int):ma (kx n):=by unfold kx;split<;>exact uf _ _
theorem TP(q:Zb):ma (oF q):=((Zyh _).append (SY _)).append ((uf _ _).append (F4 (λm=>Ua m 8) _))
def gL(k:Zc)(q:Zb):Ĳ:=ü k++hU q
theorem Mp{k m:Zc}{p q:Zb}(c:æ k)(d:æ m)(h:gL k p=gL m q):ü k=ü m/\hU p=hU q:=by unfold gL ü hU at h;rw[JB,JB]at h;obtain⟨a,h2⟩:=ZxZ k m _ _ c d (Ztp ((SK k).append (TP p)) ((SK m).append (TP q)) h);exact⟨by unfold ü;rw[a],by unfold hU;rw[h2]⟩
theorem JO(l:Ŀ Int):(bytesOf l).size=l.length:=RZ l
theorem TT{k:Zc}(h:æ k):(gY k).length<=400000:=by have a:=AS (λp hp=>(h.eqs.hN p hp).1) h.eqs.len;have h2:=AS (λp hp=>(h.δ.hN p hp).1) h.δ.len;have h3:=re (u64.wrap (2*u64.wrap k.n));have c:=F7 k.n;unfold gY;simp only[Ā];omega
theorem za{k:Zc}{q:Zb}(a:æ k)(c:rK q):(tG k q).Γ (gL k q):=by have d:=TT a;have h2:=LH c;exact⟨_,zd a,_,Mk c,by unfold ü hU;rw[JO,JO];omega,rfl⟩
theorem y6{k:Zc}{q:Zb}(a:æ k)(c:rK q):(gL k q).size<=1000000:=by have d:=TT a;have h2:=LH c;unfold gL ü hU;rw[JB,JO,Ā];omega
def ó(kind:Int):Ŀ Zb:=if kind=5\/kind=8 then[⟨4,[],[]⟩]else if kind=6\/kind=10 then[⟨5,[],[]⟩]else if kind=7 then[⟨6,[],[]⟩]else[]
theorem FF(q:Zb):(yK q).Γ (ó q.kind)/\(FM q).Γ (ó q.kind):=by
 unfold ó;by_cases a:q.kind=5
 .rw[ą (Or.inl a)];exact⟨Cq.wp.yes a (Cq.wp.yes (Ă a) rfl),Cq.wp.yes a (Cq.wp.yes (Ă a) rfl)⟩
 by_cases g:q.kind=8
 .rw[ą (Or.inr g)];exact⟨Cq.wp.no a (Cq.wp.yes (Ă g) rfl),Cq.wp.no a (Cq.wp.yes (Ă g) rfl)⟩
 rw[ā ŉ];have f:¬(decide (q.kind=8))=true:=by simpa using g
 by_cases c:q.kind=6
 .rw[ą (Or.inl c)];exact⟨Cq.wp.no a (Cq.wp.no f (Cq.wp.yes c (Cq.wp.yes (Ă c) rfl))),Cq.wp.no a (Cq.wp.no f (Cq.wp.yes c (Cq.wp.yes (Ă c) rfl)))⟩
 by_cases e:q.kind=10
 .rw[ą (Or.inr e)];exact⟨Cq.wp.no a (Cq.wp.no f (Cq.wp.no c (Cq.wp.yes (Ă e) rfl))),Cq.wp.no a (Cq.wp.no f (Cq.wp.no c (Cq.wp.yes (Ă e) rfl)))⟩
 rw[ā ŉ];have d:¬(decide (q.kind=10))=true:=by simpa using e
 by_cases h7:q.kind=7
 .rw[ą h7];exact⟨Cq.wp.no a (Cq.wp.no f (Cq.wp.no c (Cq.wp.no d (Cq.wp.yes h7 rfl)))),Cq.wp.no a (Cq.wp.no f (Cq.wp.no c (Cq.wp.no d (Cq.wp.yes h7 rfl))))⟩
 rw[ā h7];exact⟨Cq.wp.no a (Cq.wp.no f (Cq.wp.no c (Cq.wp.no d (Cq.wp.no h7 rfl)))),Cq.wp.no a (Cq.wp.no f (Cq.wp.no c (Cq.wp.no d (Cq.wp.no h7 rfl))))⟩
end Go.EL

namespace Go.EL
open Go.IntKind (i8 i16 i32 i64 u8 u16 u32 u64)
open Go Go.RowKit
theorem KN:∀{a b c:Ŀ UInt8},Op.bytesLess a b=true->Op.bytesLess b c=true->Op.bytesLess a c=true
 |[],_::_,_::_,_,_=>rfl
 |[],[],_,h,_=>by cases h
 |_::_,[],_,h,_=>by cases h
 |[],_::_,[],_,h=>by cases h
 |_::_,_::_,[],_,h=>by cases h
 |x::a,y::b,z::c,d,h2=>by
  simp only[Op.bytesLess,Ĵ,Ĉ,Ę,aa4]at d h2⊢;rcases d with d|⟨rfl,d⟩
  .rcases h2 with h2|⟨rfl,h2⟩
   .exact .inl (UInt8.lt_trans d h2)
   exact .inl d
  rcases h2 with h2|⟨rfl,h2⟩
  .exact .inl h2
  exact .inr ⟨rfl,KN d h2⟩
theorem KM:∀{a b:Ŀ UInt8},¬Op.bytesLess a b=true->¬Op.bytesLess b a=true->a=b
 |[],[],_,_=>rfl
 |[],_::_,h,_=>absurd rfl h
 |_::_,[],_,h=>absurd rfl h
 |x::a,y::b,c,h2=>by simp only[Op.bytesLess,Ĵ,Ĉ,Ę,aa4,not_or,not_and]at c h2;have e:x=y:=UInt8.le_antisymm (UInt8.not_lt.1 h2.1) (UInt8.not_lt.1 c.1);subst e;rw[KM (c.2 rfl) (h2.2 rfl)]
theorem RF:∀a:Ŀ UInt8,¬Op.bytesLess a a=true
 |[],h=>by cases h
 |x::a,h=>by
  simp only[Op.bytesLess,Ĵ,Ĉ,Ę,aa4]at h;rcases h with h|⟨_,h⟩
  .exact UInt8.lt_irrefl x h
  exact RF a h
def gK(σ τ:M):M:=λi=>Η σ (τ i)
def pM(l:Ŀ M)(τ:M):Bool:=l.all (λσ=>l.any λρ=>decide (gK σ τ=ρ))&&l.all λρ=>l.any λσ=>decide (gK σ τ=ρ)
def kK(n:Nat):Bool:=(Α n).all (pM (Α n))
theorem Zva(n:Nat):kK n=(Α n).all (pM (Α n)):=rfl
def qv(π:M):Bool:=decide (∀j:Fin 8,∃i:Fin 8,π i=(j.val:Int))
theorem Zwc:(kK 1&&kK 2&&kK 3&&kK 4)=true:=by decide +kernel
theorem ZyJ:((Α 1).all qv&&(Α 2).all qv&&(Α 3).all qv&&(Α 4).all qv)=true:=by decide +kernel
theorem kY{n:Nat}(h:1<=n/\n<=4){τ:M}(f:τ∈Α n):(∀σ∈Α n,gK σ τ∈Α n)/\∀ρ∈Α n,∃σ∈Α n,gK σ τ=ρ:=by
 have key:kK n=true:=by
  have:=Zwc;simp only[Ĉ]at this;obtain⟨⟨⟨a,h2⟩,h3⟩,g⟩:=this;have i:n=1\/n=2\/n=3\/n=4:=ŉ;rcases i with rfl|rfl|rfl|rfl
  .exact a
  .exact h2
  .exact h3
  exact g
 rw[Zva]at key;generalize Α n=l at *;have c:pM l τ=true:=Ć.1 key τ f;unfold pM at c;rw[Ĉ,Ć,Ć]at c;refine⟨λσ e=>?_,λρ d=>?_⟩
 .obtain⟨ρ,a,h2⟩:=dV.1 (c.1 σ e);rw[ĥ h2];exact a
 obtain⟨σ,a,h2⟩:=dV.1 (c.2 ρ d);exact⟨σ,a,ĥ h2⟩
theorem Dn{n:Nat}(h:1<=n/\n<=4){π:M}(a:π∈Α n)(j:Fin 8):∃i:Fin 8,π i=(j.val:Int):=by
 have:=ZyJ;simp only[Ĉ,Ć]at this;obtain⟨⟨⟨c,h2⟩,h3⟩,d⟩:=this;have e:n=1\/n=2\/n=3\/n=4:=ŉ;rcases e with rfl|rfl|rfl|rfl
 .exact ĥ (c π a) j
 .exact ĥ (h2 π a) j
 .exact ĥ (h3 π a) j
 exact ĥ (d π a) j
theorem Zzj{n:Nat}(h:1<=n/\n<=4){σ τ:M}(c:τ∈Α n)(i j:Fin 8)(a:(j.val:Int)=τ i):gK σ τ i=σ j:=by unfold gK;rw[<-a];exact Õ j.isLt
theorem Sa{n:Nat}(h:1<=n/\n<=4){σ τ:M}(c:σ∈Α n)(a:τ∈Α n)(m:M):fx σ (fx τ m)=fx (gK σ τ) m:=by have e:=(oe h c).perm;have h2:=(oe h a).perm;have h3:=(oe h ((kY h a).1 σ c)).perm;funext j;obtain⟨i,hi⟩:=Dn h c j;obtain⟨l,d⟩:=Dn h a i;rw[ug e _ i j hi.symm,ug h2 _ l i d.symm,ug h3 _ l j (by rw[Zzj h a l i d.symm];exact hi.symm)]
def gX(F:Zf->Zf)(p:Ù):Ù:=p.map λt=>⟨F t.c,t.m⟩
theorem SJ{F:Zf->Zf}{p:Ù}(h:jo p):jo (gX F p):=by unfold gX jo;rw[Ź];exact h
theorem KS{π:M}(h:Ì π){p q:Ù}(hp:jo p)(c:jo q)(e:q.Perm (p.map (jg π))):Ο π p=q:=by obtain⟨a,h2⟩:=rh h hp;exact Sh c (a.trans e.symm) (SO h2)
theorem Sb{n:Nat}(h:1<=n/\n<=4){σ τ:M}(a:σ∈Α n)(c:τ∈Α n){p:Ù}(hp:Β p):Ο σ (Ο τ p)=Ο (gK σ τ) p:=by have e:=(oe h a).perm;have h2:=(oe h c).perm;have h3:=(oe h ((kY h c).1 σ a)).perm;have f:=Z1 h2 hp;obtain⟨a1,a2⟩:=rh e f.ord;obtain⟨d,g⟩:=rh h2 hp.ord;refine(KS h3 hp.ord a2 ?_).symm;refine a1.trans ((d.map _).trans (abC ?_));rw[eu];refine Ů λt _=>?_;show(⟨t.c,fx σ (fx τ t.m)⟩:Za)=⟨t.c,_⟩;rw[Sa h a c]
theorem Zvy{π:M}(h:Ì π)(F:Zf->Zf){p:Ù}(hp:Β p):Ο π (gX F p)=gX F (Ο π p):=by obtain⟨a,c⟩:=rh h hp.ord;refine KS h (SJ hp.ord) (SJ c) ?_;unfold gX;rw[eu];refine(a.map _).trans (abC ?_);rw[eu];rfl
theorem Zz4{s:Int}(d:s=1\/s = -1){u:Int}{g k:Nat}(f:1<=g)(h:1<=k){n:Int}(e:n % ((k*g:Nat):Int)=0):s*u*((s*(n / (g:Int))) / (k:Int))=u*(n / ((k*g:Nat):Int)):=by
 obtain⟨q,rfl⟩:∃q,n=((k*g:Nat):Int)*q:=⟨n / ((k*g:Nat):Int),by have:=ei n ((k*g:Nat):Int);omega⟩;have c:((k*g:Nat):Int)*q=(g:Int)*((k:Int)*q):=by rw[Int.natCast_mul,aaB (k:Int),Int.mul_assoc]
 have a:((k*g:Nat):Int)≠0:=by have:=Nat.mul_pos (show 0<k by omega) (show 0<g by omega);omega
 rw[eF _ a,c,eF _ ŉ];rcases d with rfl|rfl
 .rw[aat,aat,eF _ ŉ]
 rw[show(-1:Int)*((k:Int)*q)=(k:Int)*(-q) by rw[Int.mul_neg,Int.neg_mul,aat],eF _ ŉ,Int.neg_mul,aat,Int.neg_mul,Int.mul_neg,Int.neg_neg]
theorem ZyG{s:Int}(l:s=1\/s = -1){g:Nat}(k:1<=g){p:Ù}(hp:Β p)(d:p≠[])(j:∀t∈p,Î t.c % (g:Int)=0):jD (gX (fJ s g) p)=s*jD p:=by
 match p,d with
 |t::p,_=>
  obtain⟨e,m,_⟩:=hp.num (t:=t) ß;have c:=j t ß;show(if Î (fJ s g t.c)<0 then(-1:Int)else 1)=s*(if Î t.c<0 then -1 else 1);rw[LS];have n:=Mv k c m;have i:=ei (Î t.c) g;rw[c,aaA]at i;generalize Î t.c / (g:Int)=z at *;generalize Î t.c=N at *;have sg:z<0↔N<0:=by
   constructor
   .intro f;have:=abb (show(0:Int)<(g:Int) by omega) f;omega
   intro a;by_cases f:0<z
   .have:=Int.mul_pos (show(0:Int)<(g:Int) by omega) f;omega
   omega
  rcases l with rfl|rfl
  .rw[aat,aat];by_cases a:N<0
   .rw[ą a,ą (sg.2 a)]
   rw[ā a,ā (λh=>a (sg.1 h))]
  by_cases a:N<0
  .have:=sg.2 a;rw[ą a,ā ŉ];rfl
  have:¬z<0:=λh=>a (sg.1 h);rw[ā a,ą ŉ];rfl
theorem Zw9{s:Int}(h:s=1\/s = -1){g:Nat}(f:1<=g){p:Ù}(hp:Β p)(i:∀t∈p,Î t.c % (g:Int)=0):à (gX (fJ s g) p)=à p:=by
 by_cases c:p=[]
 .subst c;rfl
 have j:=K6 h f i;have a:ô (gX (fJ s g) p)*g=ô p:=j;have l:1<=ô (gX (fJ s g) p):=by
  have:=(xx hp c).1;rcases aa1 (ô (gX (fJ s g) p))with e|e
  .rw[e,dz]at a;omega
  exact e
 show(gX (fJ s g) p).map (λt=>(⟨fJ (jD (gX (fJ s g) p)) (ô (gX (fJ s g) p)) t.c,t.m⟩:Za))=p.map _;rw[ZyG h f hp c i];generalize ô (gX (fJ s g) p)=k at *;unfold gX;rw[eu];refine Ů λt m=>?_;have d:=xJ m;rw[<-a]at d;show(⟨fJ (s*jD p) k (fJ s g t.c),t.m⟩:Za)=⟨fJ (jD p) (ô p) t.c,t.m⟩;have:fJ (s*jD p) k (fJ s g t.c)=fJ (jD p) (ô p) t.c:=by unfold fJ;rw[pB,Zz4 h f l d,a]
 rw[this]
theorem S0{π:M}(h:Ì π){p:Ù}(hp:Β p):à (Ο π (à p))=à (Ο π p):=by
 by_cases a:p=[]
 .subst a;rfl
 have e:à p=gX (fJ (jD p) (ô p)) p:=rfl;rw[e,Zvy h _ hp];refine Zw9 (Mm p) (xx hp a).1 (Z1 h hp) (λt c=>?_);obtain⟨y,d,rfl⟩:=Ğ.1 ((rh h hp.ord).1.mem_iff.1 c);have:=xJ d;exact this
def kz(π:M)(l:Ŀ Ù):Ŀ Ù:=l.map λp=>à (Ο π p)
theorem TF{n:Nat}{least:Int}{l:Ŀ Ù}(f:n<=4)(h:iO (n:Int) least l){π:M}(d:gG n π){plain:Bool}(hp:plain=true->1<=least):kept (l.map (Ο π)) plain=kz π l:=by have e:=Gv f h d;unfold kept kz;rw[eu];refine List.filter_eq_self.2 λq g=>?_;obtain⟨p,c,rfl⟩:=Ğ.1 g;obtain⟨j,k,i,q4⟩:=e (Ο π p) (Ğ.2 ⟨p,c,rfl⟩);have:=ZzN (l:=[Ο π p]) (plain:=plain) (p:=Ο π p) ß i (λa=>by have:=hp a;omega);exact(Ō.1 this).2
theorem vy{k:Zc}(h:æ k){π:M}(a:π∈Α k.n.toNat):é k π=⟨k.n,er (kz π k.eqs),er (kz π k.δ)⟩:=by obtain⟨n,eqs,δ⟩:=k;obtain⟨m,rfl,e,c⟩:=vG h.n;have d:gG m π:=oe ⟨e,c⟩ a;rw[(k8 h (kR h π a)).eq];have hi:=Gv c h.δ d;dsimp only at hi⊢;unfold hV;rw[Li (λp hp=>(hi p hp).2.2.1),ę,TF c h.eqs d (λh=>by cases h),TF c h.δ d (λ_=>ŝ 1)]
theorem VT{n:Nat}{least:Int}{l:Ŀ Ù}(h:iO (n:Int) least l){π:M}(a:Ì π):∀q∈kz π l,Β q:=λq c=>by obtain⟨p,hp,rfl⟩:=Ğ.1 c;exact vF (Z1 a (h.hN p hp).1)
theorem UQ{n:Nat}(f:1<=n/\n<=4){least:Int}{l:Ŀ Ù}(h:iO (n:Int) least l){σ τ:M}(c:σ∈Α n)(d:τ∈Α n):er (kz σ (er (kz τ l)))=er (kz (gK σ τ) l):=by
 have g:=(oe f c).perm;have h2:=(oe f d).perm;have h3:=(oe f ((kY f d).1 σ c)).perm;have j:=VT h h2;obtain⟨a1,a2⟩:=FZ (λp hp=>(j p hp).gu);have r:∀q∈kz σ (er (kz τ l)),Β q:=λq e=>by obtain⟨p,hp,rfl⟩:=Ğ.1 e;exact vF (Z1 g (j p ((a2 p).1 hp)))
 obtain⟨k,m⟩:=FZ (λp hp=>(r p hp).gu);refine VU (λp hp=>(VT h h3 p hp).gu) k λz=>?_;rw[m z];constructor
 .intro i;obtain⟨p,hp,rfl⟩:=Ğ.1 i;obtain⟨q,e,rfl⟩:=Ğ.1 ((a2 p).1 hp);have a:=(h.hN q e).1;refine Ğ.2 ⟨q,e,?_⟩;show à (Ο (gK σ τ) q)=à (Ο σ (à (Ο τ q)));rw[S0 g (Z1 h2 a),Sb f c d a]
 intro i;obtain⟨q,e,rfl⟩:=Ğ.1 i;have a:=(h.hN q e).1;refine Ğ.2 ⟨à (Ο τ q),(a2 _).2 (Ğ.2 ⟨q,e,rfl⟩),?_⟩;show à (Ο σ (à (Ο τ q)))=à (Ο (gK σ τ) q);rw[S0 g (Z1 h2 a),Sb f c d a]
theorem E4{k:Zc}(h:æ k){σ τ:M}(c:σ∈Α k.n.toNat)(a:τ∈Α k.n.toNat):é (é k τ) σ=é k (gK σ τ):=by have n:=(k8 h (kR h τ a)).core;obtain⟨m,p,e,f⟩:=vG h.n;have d:k.n.toNat=m:=ŉ;have i:=h.eqs;have hi:=h.δ;rw[p]at i hi;rw[d]at c a;have g:=vy h (π:=τ) (by rw[d];exact a);have j:=vy h (π:=gK σ τ) (by rw[d];exact(kY ⟨e,f⟩ a).1 σ c);have l:=vy n (π:=σ) (by rw[g];show σ∈Α k.n.toNat;rw[d];exact c);rw[l,j,g];show(⟨k.n,er (kz σ (er (kz τ k.eqs))),er (kz σ (er (kz τ k.δ)))⟩:Zc)=_;rw[UQ ⟨e,f⟩ i c a,UQ ⟨e,f⟩ hi c a]
theorem LI(k:Zc):∀(l:Ŀ M) (s:Zc×M),(∃ρ,s=(é k ρ,ρ))->
  (∃ρ,fk k l s=(é k ρ,ρ)/\(ρ∈l\/fk k l s=s))/\(¬Op.bytesLess (ü s.1).toList (ü (fk k l s).1).toList=true)/\∀π∈l,¬Op.bytesLess (ü (é k π)).toList (ü (fk k l s).1).toList=true
 |[],s,⟨ρ,g⟩=>⟨⟨ρ,g,.inr rfl⟩,RF _,λπ i=>by cases i⟩
 |π::l,s,⟨ρ,g⟩=>by
  unfold fk;by_cases c:Op.bytesLess (ü (é k π)).toList (ü s.1).toList=true
  .rw[ą c];obtain⟨⟨r,d,h2⟩,h3,f⟩:=LI k l (é k π,π) ⟨π,rfl⟩;refine⟨⟨r,d,?_⟩,λh=>?_,λx a=>?_⟩
   .rcases h2 with h2|h2
    .exact .inl (by simp[h2])
    rw[d]at h2;have e:=(Prod.mk.inj h2).2;exact .inl (by simp[e])
   .exact h3 (KN c h)
   rcases Ď.1 a with rfl|a
   .exact h3
   exact f x a
  rw[ā c];obtain⟨⟨r,d,h2⟩,h3,f⟩:=LI k l s ⟨ρ,g⟩;refine⟨⟨r,d,?_⟩,h3,λx a=>?_⟩
  .rcases h2 with h2|h2
   .exact .inl (by simp[h2])
   exact .inr h2
  rcases Ď.1 a with rfl|a
  .intro h;by_cases e:Op.bytesLess (ü (fk k l s).1).toList (ü s.1).toList=true
   .exact c (KN h e)
   have:=KM h3 e;rw[<-this]at h;exact c h
  exact f x a
theorem SE(k:Zc):∀(l:Ŀ M) (s:Zc×M),(∀π∈l,¬Op.bytesLess (ü (é k π)).toList (ü s.1).toList=true)->fk k l s=s
 |[],_,_=>rfl
 |π::l,s,h=>by unfold fk;rw[ā (h π ß)];exact SE k l s λx a=>h x (by simp[a])
theorem yS(k:Zc):(∃ρ∈Α k.n.toNat,Θ k=(é k ρ,ρ))/\∀π∈Α k.n.toNat,¬Op.bytesLess (ü (é k π)).toList (ü (Θ k).1).toList=true:=by
 obtain⟨⟨ρ,c,h2⟩,h3,d⟩:=LI k (Α k.n.toNat).tail (é k (λi=>(i.val:Int)),λi=>(i.val:Int)) ⟨_,rfl⟩;rw[tX];refine⟨⟨ρ,?_,c⟩,λπ a=>?_⟩
 .rcases h2 with h2|h2
  .simp[h2]
  rw[c]at h2;have:=(Prod.mk.inj h2).2;simp[this]
 rcases Ď.1 a with rfl|a
 .exact h3
 exact d π a
theorem Zze{a b:Ĳ}(h:a.toList=b.toList):a=b:=by rw[Lib.toList_data,Lib.toList_data]at h;exact ByteArray.ext (Array.toList_inj.1 h)
theorem id_comp{n:Nat}(a:1<=n/\n<=4){ρ:M}(h:ρ∈Α n):gK (λi=>(i.val:Int)) ρ=ρ:=by funext i;have hr:=(oe a h).perm.ot i;show Η _ (ρ i)=ρ i;rw[mR hr];show((ρ i).toNat:Int)=ρ i;omega
theorem ZlS{π:M}(h:Ì π):(Jh π).Γ true:=by
 refine Cq.Zo 8 (λk s=>∃a:Fin 8->Bool,s=((k:Int),a)/\∀j,a j=true->∃i:Fin 8,i.val<k/\(j.val:Int)=π i) (λk s c e=>?_) (λs e=>?_) ⟨_,rfl,λj f=>by cases f⟩
 .obtain⟨a,rfl,d⟩:=e;have r:=h.ot ⟨k,c⟩;refine Cq.wp.yes ŉ ⟨⟨ŉ,ŉ⟩,?_⟩;rw[Õ c];refine Cq.wp.no ŉ ⟨⟨ŉ,ŉ⟩,Cq.wp.no ŉ ⟨⟨ŉ,ŉ⟩,r,Cq.wp.no (Gn h c d) ⟨⟨ŉ,ŉ⟩,r,?_⟩⟩⟩;rw[χ ŉ];exact⟨_,rfl,FB h c d⟩
 obtain⟨a,rfl,d⟩:=e;exact Cq.wp.no ĳ rfl
theorem Zv8{k:Zc}(c:æ k){τ:M}(a:τ∈Α k.n.toNat):ü (Θ k).1=ü (Θ (é k τ)).1:=by
 have g:1<=k.n.toNat/\k.n.toNat<=4:=by have:=c.n;omega
 have f:(é k τ).n=k.n:=by rw[vy c a]
 obtain⟨⟨ρ,j,l⟩,m⟩:=yS k;obtain⟨⟨ω,w1,w2⟩,w3⟩:=yS (é k τ);rw[f]at w1 w3;have d:(Θ k).1=é k ρ:=by rw[l]
 have e:(Θ (é k τ)).1=é (é k τ) ω:=by rw[w2]
 refine Zze (KM (λh=>?_) (λh=>?_))
 .obtain⟨σ,i,n⟩:=(kY g a).2 ρ j;refine w3 σ i ?_;rw[E4 c i a,n,<-d];exact h
 refine m (gK ω τ) ((kY g a).1 ω w1) ?_;rw[<-E4 c w1 a,<-e];exact h
end Go.EL

namespace Go.EL
open Go.IntKind (i8 i16 i32 i64 u8 u16 u32 u64)
open Go Go.RowKit
abbrev Qn:=Int×Nat
def Ν(x:Qn):Zf:=⟨ä x.1,ä (x.2:Int)⟩
def uR(n:Int)(d:Nat):Qn:=(n / ((Nat.gcd n.natAbs d:Nat):Int),d / Nat.gcd n.natAbs d)
def hL(x y:Qn):Qn:=uR (x.1*y.1) (x.2*y.2)
def my(x y:Qn):Qn:=uR (x.1*(y.2:Int)-y.1*(x.2:Int)) (x.2*y.2)
def kh(x:Qn):Qn:=if x.1<0 then(-(x.2:Int),x.1.natAbs)else((x.2:Int),x.1.natAbs)
def pc(x:Qn):Int:=if x.1<0 then -1 else if x.1=0 then 0 else 1
def ia:Ŀ Qn:=[(0,1),(1,1),(-1,1),(2,1),(-2,1),(3,1),(-3,1),(1,2),(-1,2),(3,2),(-3,2),(1,3),(-1,3),(2,3),(-2,3)]
def jJ(x:Qn):Bool:=match x.2 with
 |1=>match x.1 with
  |.ofNat n=>Nat.ble n 3
  |.negSucc n=>Nat.ble n 2
 |2=>match x.1 with
  |.ofNat n=>Nat.beq n 1 || Nat.beq n 3
  |.negSucc n=>Nat.beq n 0 || Nat.beq n 2
 |3=>match x.1 with
  |.ofNat n=>Nat.beq n 1 || Nat.beq n 2
  |.negSucc n=>Nat.beq n 0 || Nat.beq n 1
 |_=>false
theorem Gl{x:Qn}(h:jJ x=true):x∈ia:=by
 obtain⟨n,d⟩:=x;unfold jJ at h;dsimp only at h;split at h
 .cases n with
  |ofNat n=>have h:=š h;match n,h with|0,_=>decide|1,_=>decide|2,_=>decide|3,_=>decide
  |negSucc n=>have h:=š h;match n,h with|0,_=>decide|1,_=>decide|2,_=>decide
 .cases n with
  |ofNat n=>rw[Ĵ]at h;rcases h with h|h<;>(rw[ĵ h];decide)
  |negSucc n=>rw[Ĵ]at h;rcases h with h|h<;>(rw[ĵ h];decide)
 .cases n with
  |ofNat n=>rw[Ĵ]at h;rcases h with h|h<;>(rw[ĵ h];decide)
  |negSucc n=>rw[Ĵ]at h;rcases h with h|h<;>(rw[ĵ h];decide)
 cases h
theorem OK:(ã (-1) 3 λn=>runs 40 (ZX n) (Ν (n,1))&&runs 40 (wU n) (Ν (n,1)))=true:=by decide +kernel
theorem OI:(ia.all λx=>runs 40 (oy (Ν x)) (pc x)&&runs 40 (ZH (Ν x)) (pc x))=true:=by decide +kernel
theorem OJ:(ia.all λx=>x.1 == 0 || runs 60 (Gb (Ν x)) (Ν (kh x),0))=true:=by decide +kernel
theorem DD:(ia.all λx=>ia.all λy=>runs 60 (rj (Ν x) (Ν y)) (Ν (hL x y)))=true:=by decide +kernel
theorem DF:(ia.all λx=>ia.all λy=>runs 60 (Ge (Ν x) (Ν y)) (Ν (my x y)))=true:=by decide +kernel
theorem DC:(ia.all λx=>ia.all λy=>runs 60 (Z9 (Ν x) (Ν y)) (Ν (hL x y)))=true:=by decide +kernel
theorem DE:(ia.all λx=>ia.all λy=>runs 60 (Ex (Ν x) (Ν y)) (Ν (my x y)))=true:=by decide +kernel
theorem DG:(ia.all λx=>ia.all λy=>y.1 == 0 || runs 60 (Ev (Ν x) (Ν y)) (Ν (hL x (kh y)),0))=true:=by decide +kernel
theorem td{f:Qn->Qn->Bool}(h:(ia.all λx=>ia.all λy=>f x y)=true){x y:Qn}(a:jJ x=true)(c:jJ y=true):f x y=true:=Ć.1 (Ć.1 h x (Gl a)) y (Gl c)
theorem xL{n:Int}(h:-1<=n/\n<=3):(ZX n).Γ (Ν (n,1))/\(wU n).Γ (Ν (n,1)):=by have:=Zq OK h.1 h.2;rw[Ĉ]at this;exact⟨Zr this.1,Zr this.2⟩
theorem MB{x:Qn}(h:jJ x=true):(oy (Ν x)).Γ (pc x)/\(ZH (Ν x)).Γ (pc x):=by have:=Ć.1 OI x (Gl h);rw[Ĉ]at this;exact⟨Zr this.1,Zr this.2⟩
theorem ZBx{x:Qn}(h:jJ x=true)(a:x.1≠0):(Gb (Ν x)).Γ (Ν (kh x),0):=by have:=Ć.1 OJ x (Gl h);rw[Ĵ]at this;exact Zr (this.resolve_left (by simpa using a))
theorem Pb{x y:Qn}(a:jJ x=true)(c:jJ y=true):(rj (Ν x) (Ν y)).Γ (Ν (hL x y)):=Zr (td DD a c)
theorem ZBA{x y:Qn}(a:jJ x=true)(c:jJ y=true):(Ge (Ν x) (Ν y)).Γ (Ν (my x y)):=Zr (td DF a c)
theorem ZBy{x y:Qn}(a:jJ x=true)(c:jJ y=true):(Z9 (Ν x) (Ν y)).Γ (Ν (hL x y)):=Zr (td DC a c)
theorem ZBz{x y:Qn}(a:jJ x=true)(c:jJ y=true):(Ex (Ν x) (Ν y)).Γ (Ν (my x y)):=Zr (td DE a c)
theorem ZBB{x y:Qn}(c:jJ x=true)(d:jJ y=true)(a:y.1≠0):(Ev (Ν x) (Ν y)).Γ (Ν (hL x (kh y)),0):=by have:=td DG c d;rw[Ĵ]at this;exact Zr (this.resolve_left (by simpa using a))
end Go.EL

namespace Go.EL
open Go.IntKind (i8 i16 i32 i64 u8 u16 u32 u64)
open Go Go.RowKit
def nI(n:Int):Qn:=uR n 3
def oN(n m:Int):Qn:=uR (2*n+3*m) 6
def nv(x:Qn):Bool:=runs 60 (uj (Ν x)) true&&runs 60 (ZZ (Ν x)) true
def qz(x:Qn)(b:Bool):Bool:=runs 60 (vu (Ν x)) b&&runs 60 (tA (Ν x)) b
def BN(x y:Qn)(c:Int):Bool:=runs 60 (vD (Ν x) (Ν y)) c&&runs 60 (vh (Ν x) (Ν y)) c
theorem Mr:(ã (-128) 127 λn=>runs 60 (xv ⟨n,3,0⟩) (Ν (nI n))&&(nv (nI n)&&qz (nI n) (decide (n=0))))=true:=by decide +kernel
theorem Tz:(ã 0 7 λm=>runs 60 (xv ⟨m,2,0⟩) (Ν (uR m 2))&&qz (oN 0 m) (decide (m=0)))=true:=by decide +kernel
theorem YM:(ã (-256) 275 λs=>nv (uR s 6))=true:=by decide +kernel
theorem Zzi:(ã 0 7 λm=>ã (-128) 127 λn=>BN (nI n) (oN n m) (if m=0 then 0 else -1))=true:=by decide +kernel
def mV(m:Int):Bool:=ã (-128) 127 λn=>runs 60 (vC (Ν (nI n)) (Ν (uR m 2))) (Ν (oN n m))
theorem MD:mV 0=true:=by decide +kernel
theorem ME:mV 1=true:=by decide +kernel
theorem MF:mV 2=true:=by decide +kernel
theorem MG:mV 3=true:=by decide +kernel
theorem MH:mV 4=true:=by decide +kernel
theorem MI:mV 5=true:=by decide +kernel
theorem MJ:mV 6=true:=by decide +kernel
theorem MK:mV 7=true:=by decide +kernel
theorem ZxQ{m:Int}(h:0<=m/\m<=7):mV m=true:=by
 have:m=0\/m=1\/m=2\/m=3\/m=4\/m=5\/m=6\/m=7:=ŉ;rcases this with rfl|rfl|rfl|rfl|rfl|rfl|rfl|rfl
 .exact MD
 .exact ME
 .exact MF
 .exact MG
 .exact MH
 .exact MI
 .exact MJ
 exact MK
abbrev gQ(n:Int):Prop:=-128<=n/\n<=127
abbrev iB(m:Int):Prop:=0<=m/\m<=7
theorem U5{n:Int}(h:gQ n):(xv ⟨n,3,0⟩).Γ (Ν (nI n)):=by have:=Zq Mr h.1 h.2;rw[Ĉ]at this;exact Zr this.1
theorem ZwL{m:Int}(h:iB m):(xv ⟨m,2,0⟩).Γ (Ν (uR m 2)):=by have:=Zq Tz h.1 h.2;rw[Ĉ]at this;exact Zr this.1
theorem U2{n m:Int}(h:gQ n)(a:iB m):(vC (Ν (nI n)) (Ν (uR m 2))).Γ (Ν (oN n m)):=
 Zr (Zq (ZxQ a) h.1 h.2)
theorem TI{n:Int}(h:gQ n):(uj (Ν (nI n))).Γ true/\(ZZ (Ν (nI n))).Γ true:=by have:=Zq Mr h.1 h.2;unfold nv at this;simp only[Ĉ]at this;exact⟨Zr this.2.1.1,Zr this.2.1.2⟩
theorem U6{n:Int}(h:gQ n):(vu (Ν (nI n))).Γ (decide (n=0))/\(tA (Ν (nI n))).Γ (decide (n=0)):=by have:=Zq Mr h.1 h.2;unfold qz at this;simp only[Ĉ]at this;exact⟨Zr this.2.2.1,Zr this.2.2.2⟩
theorem ZzH{m:Int}(h:iB m):(vu (Ν (oN 0 m))).Γ (decide (m=0))/\(tA (Ν (oN 0 m))).Γ (decide (m=0)):=by have:=Zq Tz h.1 h.2;unfold qz at this;simp only[Ĉ]at this;exact⟨Zr this.2.1,Zr this.2.2⟩
theorem TB{n m:Int}(h:gQ n)(a:iB m):(uj (Ν (oN n m))).Γ true/\(ZZ (Ν (oN n m))).Γ true:=by have:=Zq YM (show -256<=2*n+3*m by omega) (show 2*n+3*m<=275 by omega);unfold nv at this;simp only[Ĉ]at this;exact⟨Zr this.1,Zr this.2⟩
theorem TX{n m:Int}(h:gQ n)(a:iB m):(vD (Ν (nI n)) (Ν (oN n m))).Γ (if m=0 then 0 else -1)/\(vh (Ν (nI n)) (Ν (oN n m))).Γ (if m=0 then 0 else -1):=by have:=Zq (Zq Zzi a.1 a.2) h.1 h.2;unfold BN at this;simp only[Ĉ]at this;exact⟨Zr this.1,Zr this.2⟩
def l9(n m:Int):Zl:=⟨Ν (nI n),Ν (oN n m)⟩
theorem Qm{n m:Int}(h:gQ n)(a:iB m):(JS (l9 n m)).Γ true:=by refine⟨true,(TI h).1,true,(TB h a).1,_,(TX h a).1,?_⟩;show decide _=true;split<;>decide
theorem Zob{n m:Int}(h:gQ n)(a:iB m):(Jp (l9 n m)).Γ true:=by refine⟨true,(TI h).2,true,(TB h a).2,_,(TX h a).2,?_⟩;show decide _=true;split<;>decide
end Go.EL

namespace Go.EL
open Go.IntKind (i8 i16 i32 i64 u8 u16 u32 u64)
open Go Go.RowKit
def fa{α:Type}(Z row:Ŀ α)(n:Nat):Ŀ α:=Z.take n++row.drop n
section
variable {α:Type}{Z row:Ŀ α}
theorem Zve:fa Z row 0=row:=rfl
theorem ZwF(h:Z.length=row.length):fa Z row Z.length=Z:=by unfold fa;rw[List.take_length,h,List.drop_length,List.append_nil]
theorem E0(h:Z.length=row.length){n:Nat}(a:Z.length<=n):fa Z row n=Z:=by unfold fa;rw[List.take_of_length_le a,List.drop_eq_nil_of_le ŉ,List.append_nil]
theorem SP(h:Z.length=row.length)(n:Nat):(fa Z row n).length=row.length:=by unfold fa;rw[List.length_append,List.length_take,List.length_drop];omega
theorem LM(h:Z.length=row.length){n:Nat}(a:n<row.length):(fa Z row n)[n]?=some row[n]:=by unfold fa;rw[Ĥ (by rw[Č];omega),Č,Ũ,show n+(n-min n Z.length)=n by omega];exact Ą a
theorem A7(h:Z.length=row.length){n:Nat}(a:n<row.length):(fa Z row n).set n (Z[n]'ŉ)=fa Z row (n+1):=by
 refine Ÿ λi=>?_;unfold fa;rw[aac];by_cases e:n=i
 .subst e;rw[ą rfl,ą (by rw[Ā,Č,ľ];omega),Ė (by rw[Č];omega),Ŵ ŉ,Ą ŉ]
 rw[ā e];by_cases hi:i<n
 .rw[Ė (by rw[Č];omega),Ė (by rw[Č];omega),Ŵ hi,Ŵ ŉ]
 rw[Ĥ (by rw[Č];omega),Ĥ (by rw[Č];omega),Č,Č,Ũ,Ũ];congr 1;omega
theorem KK(h:Z.length=row.length)(g:row.length<=1000){step:Int×Ŀ α->Cq ((Int×Ŀ α)⊕Ŀ α)}(f:∀n (i:n<row.length),(step ((n:Int),fa Z row n)).Γ (.inl (((n+1:Nat):Int),(fa Z row n).set n (Z[n]'ŉ))))
  (h2:(step ((row.length:Int),Z)).Γ (.inr Z)):(Cq.loop step (0,row)).Γ Z:=by
 refine Cq.Zo row.length (λk s=>s=((k:Int),fa Z row k)) (λk s d c=>?_) (λs c=>?_) rfl
 .subst c
  refine(step _).mono (λa (e:a=_)=>?_) (f k d)
  subst e
  show _=_
  rw[A7 h d]
 subst c
 rw[<-h,ZwF h]
 refine(step _).mono (λa (e:a=_)=>?_) (by rw[h];exact h2)
 subst e
 rfl
end
theorem um{l:Ŀ Qn}{n:Nat}(h:n<l.length):(0:Int)<=(n:Int)/\(l.map Ν)[(n:Int).toNat]?=some (Ν l[n]):=⟨ŉ,by simp[h]⟩
theorem vo{α:Type}{Z row:Ŀ α}(h:Z.length=row.length){n:Nat}(a:n<row.length):(0:Int)<=(n:Int)/\(fa Z row n)[(n:Int).toNat]?=some row[n]:=⟨ŉ,by rw[Ĕ];exact LM h a⟩
def oW(row oj:Ŀ Qn)(c:Qn):Ŀ Qn:=List.zipWith (λx y=>my x (hL c y)) row oj
def qi(row oj:Ŀ Qn)(c:Qn):Bool:=jJ c&&row.all jJ&&oj.all jJ&&oj.all (λy=>jJ (hL c y))&&decide (row.length=8)&&decide (oj.length=8)
theorem ZxM{row oj:Ŀ Qn}{k:Nat}(j:k<row.length)(h:qi row oj row[k]=true):(J9 (row.map Ν) (oj.map Ν) (k:Int)).Γ ((oW row oj row[k]).map Ν):=by
 unfold qi at h;simp only[Ĉ,Ę,Ć]at h;obtain⟨⟨⟨⟨⟨f,h2⟩,h3⟩,g⟩,l⟩,m⟩:=h;have d:((oW row oj row[k]).map Ν).length=(row.map Ν).length:=by rw[List.length_map,List.length_map];unfold oW;rw[List.length_zipWith];omega
 refine⟨_,um j,?_⟩;show(Cq.next _ _).wp _;refine Cq.mono _ (λa (e:a=_)=>?_) (KK (Z:=(oW row oj row[k]).map Ν) (row:=row.map Ν) d (by rw[ć];omega) (λn c=>?_) ?_)
 .subst e;rfl
 .have nj:n<row.length:=by rwa [ć]at c
  have i:n<oj.length:=ŉ;refine Cq.wp.yes ŉ ⟨_,vo d c,_,um i,Ν (hL row[k] oj[n]),Pb f (h3 _ (ă _)),Ν (my row[n] (hL row[k] oj[n])),?_,_,vo d c,?_⟩
  .rw[Ū];exact ZBA (h2 _ (ă _)) (g _ (ă _))
  show _=_;rw[χ ŉ];congr 3;simp[oW]
 exact Cq.wp.no (by rw[ć];omega) rfl
def eJ:Ŀ Qn->Nat
 |[]=>0
 |x::l=>if x.1=0 then eJ l+1 else 0
theorem Lq:∀l:Ŀ Qn,eJ l<=l.length
 |[]=>ĉ _
 |x::l=>by have:=Lq l;unfold eJ;split<;>simp only[Ě]<;>omega
theorem T2:∀{l:Ŀ Qn}{n:Nat}(h:n<l.length),n<eJ l->l[n].1=0
 |x::l,0,_,h=>by
  unfold eJ at h;split at h
  .assumption
  omega
 |x::l,n+1,a,h=>by
  unfold eJ at h;split at h
  .exact T2 (l:=l) (by simpa using a) ŉ
  omega
theorem Lr:∀{l:Ŀ Qn}(h:eJ l<l.length),l[eJ l].1≠0
 |x::l,h=>by
  by_cases a:x.1=0
  .have e:eJ (x::l)=eJ l+1:=ą a;simp only[e,x8];exact Lr (l:=l) (by rw[e]at h;simpa using h)
  have e:eJ (x::l)=0:=ā a;simp only[e,dA];exact a
theorem FC{x:Qn}:pc x=0↔x.1=0:=by
 unfold pc;split
 .constructor<;>intro<;>omega
 split<;>constructor<;>intro<;>omega
theorem ZvY{row:Ŀ Qn}(h:row.length=8)(a:row.all jJ=true):(QQ (row.map Ν) 0).Γ (eJ row:Int):=by
 rw[Ć]at a;have f:=Lq row;refine Cq.Zo (eJ row) (λk s=>s=(k:Int)) (λk s d c=>?_) (λs c=>?_) rfl
 .subst c;refine Cq.wp.yes ŉ ⟨_,um (l:=row) ŉ,_,(MB (a _ (ă ŉ))).1,Cq.wp.yes (FC.2 (T2 ŉ d)) ?_⟩;show _=_;rw[χ ŉ]
 subst c;by_cases g:eJ row<8
 .refine Cq.wp.yes ŉ ⟨_,um (l:=row) ŉ,_,(MB (a _ (ă ŉ))).1,Cq.wp.no (λe=>Lr ŉ (FC.1 e)) rfl⟩
 exact Cq.wp.no ŉ rfl
def o9(row:Ŀ Qn)(c:Qn):Ŀ Qn:=row.map λx=>hL x c
theorem ZxN{row:Ŀ Qn}{c:Qn}(e:Int)(h:row.length=8)(a:row.all jJ=true)(g:jJ c=true):(QP (Ν c,e) (0,row.map Ν)).Γ ((o9 row c).map Ν):=by
 rw[Ć]at a;have f:((o9 row c).map Ν).length=(row.map Ν).length:=by simp[o9]
 refine KK (Z:=(o9 row c).map Ν) (row:=row.map Ν) f (by rw[ć];omega) (λn d=>?_) ?_
 .have nj:n<row.length:=by rwa [ć]at d
  refine Cq.wp.yes ŉ ⟨_,vo f d,Ν (hL row[n] c),?_,_,vo f d,?_⟩
  .rw[Ū];exact Pb (a _ (ă _)) g
  show _=_;rw[χ ŉ];congr 3;simp[o9]
 exact Cq.wp.no (by rw[ć];omega) rfl
def fX(m:Fin 8->Int):Ŀ Qn:=(List.range 8).map λ(k:Nat)=>(Η m (k:Int),1)
def lU(m:Fin 8->Int):Bool:=decide (∀i,-1<=m i/\m i<=3)
theorem L4(m:Fin 8->Int):(fX m).length=8:=by simp[fX]
theorem T9{m:Fin 8->Int}(h:lU m=true){k:Nat}(a:k<8):-1<=Η m (k:Int)/\Η m (k:Int)<=3:=by rw[Õ a];exact ĥ h _
theorem Zv0{o:Ord}{i:Nat}(hi:i<o.length)(h:lU o[i]=true){z:Zf}:(QG o (i:Int) (0,List.replicate 8 z)).Γ ((fX o[i]).map Ν):=by
 have c:((fX o[i]).map Ν).length=(List.replicate 8 z).length:=by rw[ć,L4,Ĺ]
 refine KK (Z:=(fX o[i]).map Ν) (row:=List.replicate 8 z) c (by rw[Ĺ];omega) (λn a=>?_) ?_
 .have nj:n<8:=by rwa [Ĺ]at a
  refine Cq.wp.yes ŉ ⟨_,Ξ hi,⟨ŉ,ŉ⟩,Ν (Η o[i] (n:Int),1),(xL (T9 h nj)).1,_,vo c a,?_⟩;show _=_;rw[χ ŉ];congr 3;simp[fX]
 exact Cq.wp.no (by rw[Ĺ];omega) rfl
def fy(done:Ŀ (Ŀ Qn×Nat))(row:Ŀ Qn):Nat->Ŀ Qn
 |0=>row
 |k+1=>match done[k]? with
  |some d=>oW (fy done row k) d.1 ((fy done row k).getD d.2 (0,1))
  |none=>fy done row k
def qj(done:Ŀ (Ŀ Qn×Nat))(row:Ŀ Qn):Bool:=(List.range done.length).all λk=>match done[k]? with
 |some d=>qi (fy done row k) d.1 ((fy done row k).getD d.2 (0,1))&&decide (d.2<8)
 |none=>false
theorem Ztk{done:Ŀ (Ŀ Qn×Nat)}{row:Ŀ Qn}(l:done.length<=100)(h:qj done row=true):
  (QR (done.map λd=>d.1.map Ν) (done.map λd=>(d.2:Int)) (0,row.map Ν)).Γ ((fy done row done.length).map Ν):=by
 refine Cq.Zo done.length (λk s=>s=((k:Int),(fy done row k).map Ν)) (λk s c e=>?_) (λs e=>?_) rfl
 .subst e
  have a:=Ć.1 h k (ĺ.2 c)
  have f:done[k]?=some done[k]:=Ą c
  rw[f]at a
  dsimp only at a
  rw[Ĉ]at a
  have j:(fy done row k).length=8:=by have:=a.1;unfold qi at this;simp only[Ĉ,Ę]at this;exact this.1.2
  have h2:done[k].2<(fy done row k).length:=by rw[j];exact ĥ a.2
  have g:(fy done row k).getD done[k].2 (0,1)=(fy done row k)[done[k].2]:=by rw[ģ,Ą h2];rfl
  rw[g]at a
  refine Cq.wp.yes (by rw[ć];omega) ⟨done[k].1.map Ν,⟨ŉ,by simp[c]⟩,(done[k].2:Int),⟨ŉ,by simp[c]⟩,_,ZxM h2 a.1,?_⟩
  show _=_
  rw[χ ŉ]
  congr 2
  have i:fy done row (k+1)=match done[k]? with|some d=>oW (fy done row k) d.1 ((fy done row k).getD d.2 (0,1))|none=>fy done row k:=rfl
  rw[i,f]
  dsimp only
  rw[g]
 subst e
 exact Cq.wp.no (by rw[ć];omega) rfl
def õ(o:Ord):Nat->Ŀ (Ŀ Qn×Nat)
 |0=>[]
 |k+1=>match o[k]? with
  |some m=>
   let row:=fy (õ o k) (fX m) (õ o k).length
   if eJ row=8 then õ o k else õ o k++[(o9 row (kh (row.getD (eJ row) (0,1))),eJ row)]
  |none=>õ o k
theorem Cq.fi{α β:Type}{c:Cq α}{k:α->Cq β}{p:β->Prop}{r:α}(h:c.Γ r)(h2:(k r).wp p):(c.next k).wp p:=c.mono (λa (e:a=r)=>by rw[e];exact h2) h
def sO(o:Ord):Bool:=(List.range o.length).all λk=>match o[k]? with
 |some m=>
  let row:=fy (õ o k) (fX m) (õ o k).length
  lU m&&qj (õ o k) (fX m)&&row.all jJ&&decide (row.length=8)&&(eJ row == 8 || (jJ (row.getD (eJ row) (0,1))&&jJ (kh (row.getD (eJ row) (0,1)))))
 |none=>false
theorem Sf(o:Ord):∀k,(õ o k).length<=k
 |0=>ĉ _
 |k+1=>by
  have:=Sf o k;unfold õ;split
  .dsimp only;split
   .omega
   rw[Ā];simp only[Ě,Ļ];omega
  omega
theorem Zv1{o:Ord}(A:o.length<=40)(h:sO o=true):(FT o).Γ ((õ o o.length).length:Int):=by
 show(Cq.next _ _).wp _;refine Cq.Zo o.length (λk s=>s=((õ o k).map (λd=>d.1.map Ν),(õ o k).map (λd=>(d.2:Int)),(k:Int))) (λk s j l=>?_) (λs l=>?_) rfl
 .subst l;have e:=Ć.1 h k (ĺ.2 j);have q:o[k]?=some o[k]:=Ą j;rw[q]at e;dsimp only at e;simp only[Ĉ,Ę]at e;obtain⟨⟨⟨⟨t,h2⟩,h3⟩,n⟩,g⟩:=e;have x:=Sf o k;have f:õ o (k+1)=if eJ (fy (õ o k) (fX o[k]) (õ o k).length)=8 then õ o k else õ o k++[(o9 (fy (õ o k) (fX o[k]) (õ o k).length) (kh ((fy (õ o k) (fX o[k]) (õ o k).length).getD (eJ (fy (õ o k) (fX o[k]) (õ o k).length)) (0,1))),eJ (fy (õ o k) (fX o[k]) (õ o k).length))]:=by
   show(match o[k]? with|some m=>_|none=>_)=_;rw[q]
  generalize y:õ o k=D at *;have c:=Ztk (done:=D) (row:=fX o[k]) ŉ h2;generalize r:fy D (fX o[k]) D.length=row at *;have u:=Lq row;refine Cq.wp.yes ŉ ?_;refine Cq.fi (Zv0 j t) (Cq.fi c (Cq.fi (ZvY n h3) ?_));by_cases i:eJ row=8
  .refine Cq.wp.yes ŉ ?_;show _=_;rw[χ ŉ,f,ą i]
  refine Cq.wp.no ŉ ?_;have a:eJ row<row.length:=ŉ;have v:row.getD (eJ row) (0,1)=row[eJ row]:=by rw[ģ,Ą a];rfl
  rw[v]at g f;have p:jJ row[eJ row]=true/\jJ (kh row[eJ row])=true:=by rw[Ĵ,aa4,Ĉ]at g;exact g.resolve_left i
  refine⟨_,um a,_,ZBx p.1 (Lr a),Cq.fi (ZxN 0 n h3 p.2) ?_⟩;refine⟨by simp only[Ā,ć,Ě,Ļ];show _<=small;simp only[small];omega,by simp only[Ā,ć,Ě,Ļ];show _<=small;simp only[small];omega,?_⟩;show _=_;rw[χ ŉ,f,ā i,Ī,Ī];rfl
 subst l;refine Cq.wp.no ŉ ?_;show _=_;rw[ć]
end Go.EL

namespace Go.EL
open Go.IntKind (i8 i16 i32 i64 u8 u16 u32 u64)
open Go Go.RowKit
abbrev Mq:=Ŀ (Ŀ Qn)
def gB(V:Mq):Ŀ (Ŀ Zf):=V.map λr=>r.map Ν
theorem Gp{α:Type}{V:Ŀ α}{k:Nat}(a:k<V.length)(r:α):(0:Int)<=(k:Int)/\(V.set k r)[(k:Int).toNat]?=some r:=⟨ŉ,by simp[a]⟩
theorem Zz9{α:Type}{V:Ŀ α}{k j:Nat}(a:j<V.length)(h:k≠j)(r:α):(0:Int)<=(j:Int)/\(V.set k r)[(j:Int).toNat]?=some V[j]:=⟨ŉ,by simp[h,a]⟩
theorem L5{α:Type}{V:Ŀ α}{k:Nat}(a:k<V.length):V.set k V[k]=V:=ß
theorem ZwW{m:Fin 8->Int}(h:lU m=true){V:Ŀ (Ŀ Zf)}{k:Nat}(f:k<V.length){z:Zf}(g:V[k]=List.replicate 8 z):(PM (k:Int) m (V,0)).Γ (V.set k ((fX m).map Ν)):=by
 have c:((fX m).map Ν).length=(List.replicate 8 z).length:=by rw[ć,L4,Ĺ]
 refine Cq.Zo 8 (λj s=>s=(V.set k (fa ((fX m).map Ν) (List.replicate 8 z) j),(j:Int))) (λj s e d=>?_) (λs d=>?_) (by rw[Zve,<-g,L5 f];rfl)
 .subst d;have a:j<(List.replicate 8 z).length:=by rw[Ĺ];exact e
  refine Cq.wp.yes ŉ ⟨⟨ŉ,ŉ⟩,Ν (Η m (j:Int),1),(xL (T9 h e)).2,_,Gp f _,_,vo c a,?_⟩;show _=_;rw[χ ŉ,Ĕ,Ĕ,List.set_set,<-A7 c a];congr 3;simp[fX]
 subst d;refine Cq.wp.no ĳ ?_;show _=_;rw[E0 c (by rw[ć,L4];exact ĉ _)]
theorem Ztv{o:Ord}(i:o.length<=100)(h:o.all lU=true){z:Zf}:(P2 o (List.replicate o.length (List.replicate 8 z),0)).Γ (gB (o.map fX)):=by
 rw[Ć]at h;have d:(gB (o.map fX)).length=(List.replicate o.length (List.replicate 8 z)).length:=by unfold gB;rw[List.length_map,List.length_map,List.length_replicate]
 refine Cq.Zo o.length (λk s=>s=(fa (gB (o.map fX)) (List.replicate o.length (List.replicate 8 z)) k,(k:Int))) (λk s f e=>?_) (λs e=>?_) rfl
 .subst e;have a:k<(List.replicate o.length (List.replicate 8 z)).length:=by rw[Ĺ];exact f
  have c:k<(fa (gB (o.map fX)) (List.replicate o.length (List.replicate 8 z)) k).length:=by rw[SP d];exact a
  have g:(fa (gB (o.map fX)) (List.replicate o.length (List.replicate 8 z)) k)[k]=List.replicate 8 z:=by have:=LM d a;rw[Ą c]at this;rw[ŧ this,List.getElem_replicate]
  refine Cq.wp.yes ŉ ⟨_,Ξ f,Cq.fi (ZwW (h _ (ă _)) c g) ?_⟩;show _=_;rw[χ ŉ,<-A7 d a];congr 3;simp[gB]
 subst e;refine Cq.wp.no ŉ ?_;show _=_;rw[E0 d (by rw[d,Ĺ];exact ĉ _)]
def fm(i:Nat):Mq->Nat
 |[]=>0
 |r::l=>if(r.getD i (0,1)).1=0 then fm i l+1 else 0
theorem Lp(i:Nat):∀l:Mq,fm i l<=l.length
 |[]=>ĉ _
 |x::l=>by have:=Lp i l;unfold fm;split<;>simp only[Ě]<;>omega
theorem T0{i:Nat}:∀{l:Mq}{n:Nat}(h:n<l.length),n<fm i l->(l[n].getD i (0,1)).1=0
 |x::l,0,_,h=>by
  unfold fm at h;split at h
  .assumption
  omega
 |x::l,n+1,a,h=>by
  unfold fm at h;split at h
  .exact T0 (l:=l) (by simpa using a) ŉ
  omega
theorem T1{i:Nat}:∀{l:Mq}(h:fm i l<l.length),(l[fm i l].getD i (0,1)).1≠0
 |x::l,h=>by
  by_cases a:(x.getD i (0,1)).1=0
  .have e:fm i (x::l)=fm i l+1:=ą a;simp only[e,x8];exact T1 (l:=l) (by rw[e]at h;simpa using h)
  have e:fm i (x::l)=0:=ā a;simp only[e,dA];exact a
def n0(V:Mq):Bool:=V.all λr=>decide (r.length=8)&&r.all jJ
theorem ZwZ{V:Mq}(h:n0 V=true){r:Ŀ Qn}(hr:r∈V):r.length=8/\∀x∈r,jJ x=true:=by have:=Ć.1 h r hr;rw[Ĉ,Ć]at this;exact⟨ĥ this.1,this.2⟩
theorem pV{r:Ŀ Qn}{i:Nat}(h:i<r.length):r.getD i (0,1)=r[i]:=by rw[ģ,Ą h];rfl
theorem ZwQ{V:Mq}(n:V.length<=100)(h:n0 V=true){i:Nat}(hi:i<8):(ZO (gB V) (i:Int)).Γ (if fm i V=V.length then -1 else(fm i V:Int)):=by
 have l:=Lp i V;have d:(gB V).length=V.length:=ć _;have g:∀k (c:k<V.length),(JZ (V[k].map Ν) (i:Int)).Γ (decide (¬pc (V[k].getD i (0,1))=0)):=λk c=>by obtain⟨p,m⟩:=ZwZ h (ă c);have Cc:i<V[k].length:=ŉ;rw[pV Cc];exact⟨_,um Cc,_,(MB (m _ (ă _))).2,rfl⟩
 show(Cq.next _ _).wp _;refine Cq.Zo (fm i V) (λk s=>s=(k:Int)) (λk s c f=>?_) (λs f=>?_) rfl
 .subst f;refine Cq.wp.yes (by rw[d];omega) ⟨V[k].map Ν,⟨ŉ,by simp[gB,show k<V.length by omega]⟩,_,g k ŉ,Cq.wp.no (by rw[FC.2 (T0 ŉ c)];decide) ?_⟩;show _=_;rw[χ ŉ]
 subst f;by_cases j:fm i V=V.length
 .rw[ą j];exact Cq.wp.no (by rw[d];omega) rfl
 rw[ā j];have a:fm i V<V.length:=ŉ;exact Cq.wp.yes (by rw[d];omega) ⟨V[fm i V].map Ν,⟨ŉ,by simp[gB,a]⟩,_,g _ a,Cq.wp.yes (Ă λe=>T1 a (FC.1 e)) rfl⟩
def jd(row rr:Ŀ Qn)(i:Nat):Ŀ Qn:=row.take i++List.zipWith (λx y=>my x (hL (hL (row.getD i (0,1)) (kh (rr.getD i (0,1)))) y)) (row.drop i) (rr.drop i)
def nh(row rr:Ŀ Qn)(i:Nat):Bool:=decide (row.length=8)&&decide (rr.length=8)&&row.all jJ&&rr.all jJ&&decide ((rr.getD i (0,1)).1≠0)&&jJ (hL (row.getD i (0,1)) (kh (rr.getD i (0,1))))&&(rr.drop i).all λy=>jJ (hL (hL (row.getD i (0,1)) (kh (rr.getD i (0,1)))) y)
theorem Fu{row rr:Ŀ Qn}{i:Nat}(a:row.length=8)(h2:rr.length=8):(jd row rr i).length=8:=by unfold jd;rw[Ā,Č,List.length_zipWith,ľ,ľ];omega
theorem Zx2{row rr:Ŀ Qn}{i j:Nat}(a:row.length=8)(h2:rr.length=8)(hi:i<=j)(d:j<8):(jd row rr i)[j]'(by rw[Fu a h2];exact d)=my row[j] (hL (hL (row.getD i (0,1)) (kh (rr.getD i (0,1)))) rr[j]):=by
 have c:(jd row rr i)[j]?=some (my row[j] (hL (hL (row.getD i (0,1)) (kh (rr.getD i (0,1)))) rr[j])):=by unfold jd;rw[Ĥ (by rw[Č];omega),Č,List.getElem?_zipWith,Ũ,Ũ,show i+(j-min i row.length)=j by omega,Ą ŉ,Ą ŉ]
 rw[Ą (by rw[Fu a h2];exact d)]at c;exact ŧ c
theorem Zwh{V:Ŀ (Ŀ Zf)}{r k i:Nat}{row rr:Ŀ Qn}{e:Int}(j:k<V.length)(hr:r<V.length)(l:k≠r)(hi:i<8)(p:V[k]=row.map Ν)(h2:V[r]=rr.map Ν)(h:nh row rr i=true):
  (P1 (r:Int) (k:Int) (Ν (hL (row.getD i (0,1)) (kh (rr.getD i (0,1)))),e) (V,(i:Int))).Γ (V.set k ((jd row rr i).map Ν)):=by
 unfold nh at h
 simp only[Ĉ,Ę,Ć]at h
 obtain⟨⟨⟨⟨⟨⟨c,n⟩,u⟩,q4⟩,q5⟩,v⟩,x⟩:=h
 have a:((jd row rr i).map Ν).length=(row.map Ν).length:=by rw[ć,ć,Fu c n,c]
 have d:fa ((jd row rr i).map Ν) (row.map Ν) i=row.map Ν:=by unfold fa jd;rw[Ī,aaM (by rw[ć,Č];omega),List.map_take,List.take_take,Nat.min_self,Ń]
 refine Cq.Zo (8-i) (λt s=>s=(V.set k (fa ((jd row rr i).map Ν) (row.map Ν) (i+t)),((i+t:Nat):Int))) (λt s y m=>?_) (λs m=>?_) (by rw[ek,d,<-p,L5 j])
 .subst m
  have f:i+t<(row.map Ν).length:=by rw[ć];omega
  have g:i+t<rr.length:=ŉ
  have q:rr[i+t]∈rr.drop i:=by rw[ķ];exact⟨t,by rw[ľ];omega,by rw[List.getElem_drop]⟩
  refine Cq.wp.yes ŉ ⟨_,Gp j _,_,vo a f,V[r],Zz9 hr l _,Ν rr[i+t],by rw[h2];exact um g,_,ZBy v (q4 _ (ă _)),Ν (my row[i+t] (hL (hL (row.getD i (0,1)) (kh (rr.getD i (0,1)))) rr[i+t])),?_,_,Gp j _,_,vo a f,?_⟩
  .rw[Ū]
   exact ZBz (u _ (ă _)) (x _ q)
  show _=_
  rw[χ ŉ,Ĕ,Ĕ,List.set_set,<-Ţ,<-A7 a f]
  congr 3
  rw[Ū,Zx2 c n ŉ ŉ]
 subst m
 refine Cq.wp.no ŉ ?_
 show _=_
 rw[E0 a (by rw[ć,Fu c n];omega)]
theorem y9(V:Mq):(gB V).length=V.length:=ć _
theorem zj{V:Mq}{k:Nat}(a:k<V.length):(0:Int)<=(k:Int)/\(gB V)[(k:Int).toNat]?=some (V[k].map Ν):=⟨ŉ,by simp[gB,a]⟩
theorem LZ(V:Mq)(k:Nat)(r:Ŀ Qn):(gB V).set k (r.map Ν)=gB (V.set k r):=by unfold gB;rw[List.map_set]
theorem getDM{V:Mq}{k:Nat}(h:k<V.length):V.getD k []=V[k]:=by rw[ģ,Ą h];rfl
def fI(M:Mq)(r i:Nat):Nat->Mq
 |0=>M
 |t+1=>(fI M r i t).set (r+1+t) (jd ((fI M r i t).getD (r+1+t) []) ((fI M r i t).getD r []) i)
def nY(M:Mq)(r i:Nat):Bool:=(List.range (M.length-(r+1))).all λt=>nh ((fI M r i t).getD (r+1+t) []) ((fI M r i t).getD r []) i
theorem KJ(M:Mq)(r i:Nat):∀t,(fI M r i t).length=M.length
 |0=>rfl
 |t+1=>by have:=KJ M r i t;unfold fI;rw[ŗ,this]
theorem Zts{M:Mq}{r i:Nat}(q:M.length<=100)(hr:r<M.length)(hi:i<8)(h:nY M r i=true):
  (Qr (r:Int) (i:Int) (gB M,((r+1:Nat):Int))).Γ (gB (fI M r i (M.length-(r+1)))):=by
 refine Cq.Zo (M.length-(r+1)) (λt s=>s=(gB (fI M r i t),((r+1+t:Nat):Int))) (λt s m f=>?_) (λs f=>?_) rfl
 .subst f
  have c:=Ć.1 h t (ĺ.2 m)
  have j:fI M r i (t+1)=(fI M r i t).set (r+1+t) (jd ((fI M r i t).getD (r+1+t) []) ((fI M r i t).getD r []) i):=rfl
  have p:=KJ M r i t
  generalize fI M r i t=X at *
  have d:r+1+t<X.length:=ŉ
  have a:r<X.length:=ŉ
  rw[getDM d,getDM a]at c j
  have oo:=c
  unfold nh at oo
  simp only[Ĉ,Ę,Ć]at oo
  obtain⟨⟨⟨⟨⟨⟨u,v⟩,n⟩,q4⟩,q5⟩,x⟩,y⟩:=oo
  have l:i<X[r+1+t].length:=ŉ
  have g:i<X[r].length:=ŉ
  have hp:=Zwh (V:=gB X) (e:=0) (r:=r) (k:=r+1+t) (i:=i) (row:=X[r+1+t]) (rr:=X[r]) (by rw[y9];exact d) (by rw[y9];exact a) ŉ hi (by simp[gB]) (by simp[gB]) c
  rw[pV l,pV g]at hp
  rw[pV g]at q5
  refine Cq.wp.yes (by rw[y9];omega) ⟨_,zj d,_,um l,_,zj a,_,um g,_,ZBB (n _ (ă _)) (q4 _ (ă _)) q5,Cq.fi hp ?_⟩
  show _=_
  rw[χ ŉ,LZ,j]
  rfl
 subst f
 refine Cq.wp.no (by rw[y9,KJ];omega) ?_
 rfl
def ki(M:Mq)(r f:Nat):Mq:=(M.set r (M.getD (r+f) [])).set (r+f) (M.getD r [])
def qt(s:Mq×Nat)(i:Nat):Mq×Nat:=if fm i (s.1.drop s.2)=(s.1.drop s.2).length then s else(fI (ki s.1 s.2 (fm i (s.1.drop s.2))) s.2 i (s.1.length-(s.2+1)),s.2+1)
def s7(s:Mq×Nat)(i:Nat):Bool:=n0 s.1&&decide (s.2<=s.1.length)&&decide (s.1.length<=100)&&(decide (fm i (s.1.drop s.2)=(s.1.drop s.2).length) || nY (ki s.1 s.2 (fm i (s.1.drop s.2))) s.2 i)
def kA(M:Mq):Nat->Mq×Nat
 |0=>(M,0)
 |i+1=>qt (kA M i) i
def qh(M:Mq):Bool:=(List.range 8).all λi=>s7 (kA M i) i
theorem Zvp{V:Mq}(h:n0 V=true)(k:Nat):n0 (V.drop k)=true:=Ć.2 λr hr=>Ć.1 h r (List.mem_of_mem_drop hr)
theorem ZvT{o:Ord}(x:o.length<=100)(v:o.all lU=true)(h:qh (o.map fX)=true):(E3 o).Γ ((kA (o.map fX) 8).2:Int):=by
 refine⟨⟨ŉ,ŉ⟩,?_⟩;rw[Ĕ];refine Cq.fi (Ztv x v) ?_;show(Cq.next _ _).wp _;generalize o.map fX=M at h;refine Cq.Zo 8 (λi s=>s=(gB (kA M i).1,((kA M i).2:Int),(i:Int))) (λi s hi d=>?_) (λs d=>?_) rfl
 .subst d;have k:=Ć.1 h i (ĺ.2 hi);have t:kA M (i+1)=qt (kA M i) i:=rfl;rw[t];generalize kA M i=S at *;obtain⟨X,r⟩:=S;unfold s7 at k;simp only[Ĉ,Ę]at k;obtain⟨⟨⟨n,h2⟩,h3⟩,g⟩:=k;dsimp only at n h2 h3 g⊢;have q:=ZwQ (V:=X.drop r) (by rw[ľ];omega) (Zvp n r) hi;have u:gB (X.drop r)=(gB X).drop r:=by unfold gB;rw[List.map_drop]
  rw[u]at q;have l:=Lp i (X.drop r);refine Cq.wp.yes ŉ ⟨⟨ŉ,by rw[y9];omega⟩,_,by rw[Ĕ];exact q,?_⟩;by_cases c:fm i (X.drop r)=(X.drop r).length
  .rw[ą c];refine Cq.wp.yes ĳ ?_;show _=_;rw[χ ŉ];have j:qt (X,r) i=(X,r):=ą c;rw[j]
  rw[ā c];have j:qt (X,r) i=(fI (ki X r (fm i (X.drop r))) r i (X.length-(r+1)),r+1):=ā c;rw[Ĵ,Ę]at g;have g:=g.resolve_left c;rw[ľ]at l c;generalize fm i (X.drop r)=f at *;have a:r+f<X.length:=ŉ;have hr:r<X.length:=ŉ;have y:i64.wrap ((r:Int)+(f:Int))=((r+f:Nat):Int):=by rw[wrap64 ŉ];omega
  have d:ki X r f=(X.set r X[r+f]).set (r+f) X[r]:=by unfold ki;rw[getDM a,getDM hr]
  have m:(ki X r f).length=X.length:=by rw[d,ŗ,ŗ]
  have p:=Zts (M:=ki X r f) (r:=r) (i:=i) ŉ ŉ hi g;rw[m]at p;refine Cq.wp.no ŉ ?_;rw[y];refine⟨_,zj a,_,zj hr,_,zj hr,(if r=r+f then X[r+f].map Ν else X[r+f].map Ν),⟨ŉ,?_⟩,?_⟩
  .rw[Ĕ,Ĕ,aac];by_cases e:r=r+f
   .rw[ą e,ą (by rw[y9];exact hr),ą e]
   rw[ā e,ā e];have:=(zj a).2;rwa [Ĕ]at this
  rw[Ĕ,Ĕ,LZ,LZ,<-d,χ ŉ];refine Cq.fi p ?_;show _=_;rw[χ ŉ,χ ŉ,j]
 subst d;exact Cq.wp.no ĳ rfl
end Go.EL

namespace Go.EL
open Go.IntKind (i8 i16 i32 i64 u8 u16 u32 u64)
open Go Go.RowKit
theorem gG.b{n:Nat}{π:M}(h:gG n π):jB n π=true:=by unfold jB;simp only[Ĉ,Ę];exact⟨⟨h.perm.ot,h.perm.inj⟩,h.fix⟩
theorem Lk(π:M):Ο π []=[]:=rfl
theorem Zym{n:Nat}(a:1<=n/\n<=4){p:Ù}(hp:Β p):Ο (λi=>(i.val:Int)) p=p:=by
 have hi:=(Zz1 a).perm;refine KS hi hp.ord hp.ord (abC ?_);refine((Ů λt _=>?_).trans (List.map_id _)).symm;show jg _ t=t;unfold jg;have:fx (λi:Fin 8=>(i.val:Int)) t.m=t.m:=by funext j;exact ug hi _ j j rfl
 rw[this]
end Go.EL

namespace Go.EL
open Go.IntKind (i8 i16 i32 i64 u8 u16 u32 u64)
open Go Go.RowKit
def oZ(m:Nat):Fin 8->Int:=λi=>if m.testBit i.val then 1 else 0
def jh(k:Nat)(w:Int):Fin 8->Int:=λi=>if i.val=k then w else 0
def oY:Ord:=[oZ 255,jh 7 (-1),jh 6 (-1),jh 5 (-1),jh 4 (-1),jh 3 (-1),jh 2 (-1),jh 1 (-1)]
def gV:Ord:=(List.range 8).map λk=>jh k 1
def ON:Ord:=[λi=>if i.val=0 then 2 else if i.val=1 then 3 else 1]
def OO:Ord:=[λi=>if i.val<2 then 1 else 0,λi=>if i.val=0 then 1 else if i.val=1 then 0 else if i.val=2 then 2 else 1]
def lW(k:Nat):Ord:=match k % 8 with
 |0=>[]
 |1=>[oZ 255]
 |2=>oY
 |3=>oY
 |4=>ON
 |5=>OO
 |_=>oZ (k / 8 % 16)::oY
theorem Vk:ES.Γ oY:=Zr (n:=20) (by decide +kernel)
theorem TW:(ã 0 15 λm=>runs 20 (Jg m) (oZ m.toNat::oY))=true:=by decide +kernel
theorem Zvi:E9.Γ [oZ 255]:=Zr (n:=5) (by decide +kernel)
theorem ZBc:([ζ (ζ (ζ (ζ (ζ (ζ (ζ (ζ (λ_=>0) 0 2) 1 3) 2 1) 3 1) 4 1) 5 1) 6 1) 7 1]:Ord)=ON:=by decide +kernel
theorem ZBd:([ζ (ζ (ζ (ζ (ζ (ζ (ζ (ζ (λ_=>0) 0 1) 1 1) 2 0) 3 0) 4 0) 5 0) 6 0) 7 0,ζ (ζ (ζ (ζ (ζ (ζ (ζ (ζ (λ_=>0) 0 1) 1 0) 2 2) 3 1) 4 1) 5 1) 6 1) 7 1]:Ord)=OO:=by decide +kernel
theorem TN{k:Nat}(h:k<=255):(xB (k:Int)).Γ (lW k):=by
 have f:Int.tmod (k:Int) 8=((k % 8:Nat):Int):=rfl;have a:Int.tmod (u8.wrap (Int.tdiv (k:Int) 8)) 16=((k / 8 % 16:Nat):Int):=by have c:Int.tdiv (k:Int) 8=((k / 8:Nat):Int):=rfl;rw[c,HR,show((k / 8:Nat):Int) % 256=((k / 8:Nat):Int) by omega];rfl
 have d:=x9 k (show 0<8 by decide);have e:=x9 (k / 8) (show 0<16 by decide);unfold xB ET lW;rw[f];generalize g:k % 8=j at *;match j,d with
 |0,_=>exact Cq.wp.yes rfl ⟨_,rfl,rfl⟩
 |1,_=>exact Cq.wp.no ĳ (Cq.wp.yes rfl ⟨_,Zvi,rfl⟩)
 |2,_=>exact Cq.wp.no ĳ (Cq.wp.no ĳ (Cq.wp.yes rfl (Cq.wp.yes rfl ⟨_,Vk,rfl⟩)))
 |3,_=>exact Cq.wp.no ĳ (Cq.wp.no ĳ (Cq.wp.no ĳ (Cq.wp.yes rfl ⟨_,Vk,rfl⟩)))
 |4,_=>
  refine Cq.wp.no ĳ (Cq.wp.no ĳ (Cq.wp.no ĳ (Cq.wp.no ĳ ?_)));exact Cq.wp.yes rfl ZBc
 |5,_=>
  refine Cq.wp.no ĳ (Cq.wp.no ĳ (Cq.wp.no ĳ (Cq.wp.no ĳ ?_)));exact Cq.wp.no ĳ (Cq.wp.yes rfl ZBd)
 |6,_=>
  refine Cq.wp.no ĳ (Cq.wp.no ĳ (Cq.wp.no ĳ (Cq.wp.no ĳ ?_)));rw[a];exact Cq.wp.no ĳ (Cq.wp.no ĳ ⟨_,Zr (Zq TW ŉ ŉ),rfl⟩)
 |7,_=>
  refine Cq.wp.no ĳ (Cq.wp.no ĳ (Cq.wp.no ĳ (Cq.wp.no ĳ ?_)));rw[a];exact Cq.wp.no ĳ (Cq.wp.no ĳ ⟨_,Zr (Zq TW ŉ ŉ),rfl⟩)
def kQ:Ŀ Ord:=[[],[oZ 255],oY,ON,OO]++(List.range 16).map λm=>oZ m::oY
theorem Uf{k:Nat}:lW k∈kQ:=by
 unfold lW;have h2:=x9 (k / 8) (show 0<16 by decide);unfold kQ;rw[Ĩ];split
 .exact .inl ß
 .exact .inl ß
 .exact .inl ß
 .exact .inl ß
 .exact .inl ß
 .exact .inl ß
 exact .inr (Ğ.2 ⟨_,ĺ.2 h2,rfl⟩)
def eK(o:Ord):Ord:=if(õ o o.length).length=8 then o else o++gV
def dN(π:Fin 8->Int)(o:Ord):Ord:=o.map (fx π)
def r9(o:Ord)(k:Fin 8):Bool:=match(o.map λm=>m k).find? λx=>x != 0 with
 |some x=>decide (0<x)
 |none=>true
def mq(o:Ord):Bool:=o.all lU&&decide (o.length<=24)&&decide (∀k,r9 o k=true)&&sO o&&qh (o.map fX)&&decide ((kA (o.map fX) 8).2=(õ o o.length).length)
theorem ZzY:(kQ.all λo=>mq o&&decide ((õ o o.length).length=8\/o.length<=16))=true:=by decide +kernel
end Go.EL

namespace Go.EL
open Go.IntKind (i8 i16 i32 i64 u8 u16 u32 u64)
open Go Go.RowKit
def sJ(o:Ord):Bool:=mq o&&Nat.beq (õ o o.length).length 8
def n2(k:Nat):Bool:=((kQ.drop (3*k)).take 3).all λo=>(Α 3).all λπ=>sJ (dN π (eK o))
theorem C1:n2 0=true:=by decide +kernel
theorem C2:n2 1=true:=by decide +kernel
theorem C3:n2 2=true:=by decide +kernel
theorem C4:n2 3=true:=by decide +kernel
theorem C5:n2 4=true:=by decide +kernel
theorem C6:n2 5=true:=by decide +kernel
theorem C7:n2 6=true:=by decide +kernel
theorem lY{α:Type}{l:Ŀ α}{p:α->Prop}(k:Nat)(h:∀x∈(l.drop (3*k)).take 3,p x)(h2:∀x∈l.drop (3*(k+1)),p x):∀x∈l.drop (3*k),p x:=λx a=>by
 rw[<-Ń 3 (l.drop (3*k)),Ĩ]at a;rcases a with a|a
 .exact h x a
 rw[abM]at a;exact h2 x a
theorem xI{k:Nat}(h:n2 k=true):∀o∈(kQ.drop (3*k)).take 3,∀π∈Α 3,sJ (dN π (eK o))=true:=λo c π a=>Ć.1 (Ć.1 h o c) π a
theorem Ts:∀o∈kQ,∀π∈Α 3,sJ (dN π (eK o))=true:=
 lY 0 (xI C1)<|lY 1 (xI C2)<|lY 2 (xI C3)<|lY 3 (xI C4)<|lY 4 (xI C5)<|lY 5 (xI C6)<|lY 6 (xI C7) λo a=>by
  have e:kQ.drop 21=[]:=by decide +kernel
  have a:o∈kQ.drop 21:=a;rw[e]at a;cases a
end Go.EL

namespace Go.EL
open Go.IntKind (i8 i16 i32 i64 u8 u16 u32 u64)
open Go Go.RowKit
def gl(l:Ŀ Int):Int:=match l.find? λx=>x != 0 with
 |some x=>x
 |none=>0
theorem Rz(l:Ŀ Int)(x:Int):gl (l++[x])=if gl l=0 then x else gl l:=by
 unfold gl;rw[abh];cases h:l.find? λx=>x != 0 with
 |none=>
  simp only[Option.none_or];rw[ą trivial];by_cases a:x=0
  .subst a;rfl
  rw[List.find?_cons_of_pos (by simpa using a)]
 |some y=>
  have:=aaj h;simp only[Option.some_or];rw[ā (by simpa using this)]
theorem Ztr{o:Ord}{k:Fin 8}(h:r9 o k=true):0<=gl (o.map λm=>m k):=by
 unfold r9 at h;unfold gl;cases a:(o.map λm=>m k).find? λx=>x != 0 with
 |some x=>
  rw[a]at h;have:=ĥ h;dsimp only;omega
 |none=>exact ŝ _
theorem Zvg{l m:Ŀ Int}(h:0<=gl (l++m)):0<=gl l:=by
 unfold gl at h⊢;rw[abh]at h;cases a:l.find? λx=>x != 0 with
 |none=>exact ŝ _
 |some y=>rw[a]at h;exact h
structure kF (o:Ord):Prop where
 row:∀m∈o,∀k,-1<=m k/\m k<=3
 len:o.length<=24
 V1:∀k:Fin 8,0<=gl (o.map λm=>m k)
theorem kF.of{o:Ord}(h:mq o=true):kF o:=by unfold mq at h;simp only[Ĉ,Ę,Ć]at h;obtain⟨⟨⟨⟨⟨a,h2⟩,h3⟩,_⟩,_⟩,_⟩:=h;exact⟨λm c k=>ĥ (a m c) k,h2,λk=>Ztr (h3 k)⟩
theorem P4{o:Ord}{i:Nat}(hi:i<o.length)(f:(Fin 8->Int)->Int):(o.take (i+1)).map f=(o.take i).map f++[f o[i]]:=by rw[č hi,Ī];rfl
theorem EI{o:Ord}(h:kF o):(yU o).Γ true:=by
 have g:=h.len;refine Cq.wp.no ŉ ?_;show(Cq.next _ _).wp _;refine Cq.Zo 8 (λk s=>s=(k:Int)) (λk s a c=>?_) (λs c=>?_) rfl
 .subst c;refine Cq.wp.yes ŉ ?_;show(Cq.next _ _).wp _;refine Cq.Zo o.length (λi s=>s=(gl ((o.take i).map λm=>m ⟨k,a⟩),(i:Int))) (λi s hi c=>?_) (λs c=>?_) rfl
  .subst c;have hr:=h.row _ (ă hi) ⟨k,a⟩;have f:Η o[i] (k:Int)=o[i] ⟨k,a⟩:=Õ a;refine Cq.wp.yes ŉ ⟨_,Ξ hi,⟨ŉ,ŉ⟩,Cq.wp.no (by rw[f];omega) ⟨_,Ξ hi,⟨ŉ,ŉ⟩,Cq.wp.no (by rw[f];omega) ?_⟩⟩;have e:=Rz ((o.take i).map λm=>m ⟨k,a⟩) (o[i] ⟨k,a⟩);rw[<-P4 hi (λm=>m ⟨k,a⟩)]at e;by_cases d:gl ((o.take i).map λm=>m ⟨k,a⟩)=0
   .refine Cq.wp.yes d ⟨_,Ξ hi,⟨ŉ,ŉ⟩,?_⟩;show _=_;rw[χ ŉ,f,e,ą d]
   refine Cq.wp.no d ?_;show _=_;rw[χ ŉ,e,ā d]
  subst c;refine Cq.wp.no ŉ ?_;have:=h.V1 ⟨k,a⟩;rw[Ħ];refine Cq.wp.no ŉ ?_;show _=_;rw[χ ŉ]
 subst c;exact Cq.wp.no ĳ rfl
def sV(l:Ord):Fin 8->Bool:=λk=>l.any λm=>decide (¬m k=0)
def jC(b:Fin 8->Bool)(m:Fin 8->Int)(n:Nat):Fin 8->Bool:=λk=>if k.val<n then b k || decide (¬m k=0)else b k
theorem Cb{f:Fin 8->Bool}{k:Nat}(a:k<8):Η f (k:Int)=f ⟨k,a⟩:=zg f (by rw[Ĕ];exact a)
theorem ZvJ{b:Fin 8->Bool}{m:Fin 8->Int}{n:Nat}(a:n<8):ζ (jC b m n) n (b ⟨n,a⟩ || decide (¬m ⟨n,a⟩=0))=jC b m (n+1):=by
 funext k;unfold ζ jC;by_cases e:k.val=n
 .have:k=⟨n,a⟩:=abd e;subst this;rw[ą rfl,ą (Ű _)]
 rw[ā e];by_cases h:k.val<n
 .rw[ą h,ą ŉ]
 rw[ā h,ā ŉ]
theorem ZyD{m:Fin 8->Int}{b:Fin 8->Bool}(h:∀k,-1<=m k/\m k<=3)(j:∀k,m k<0->b k=true):(P0 m (0,b)).Γ (.inr (jC b m 8)):=by
 refine Cq.Zo 8 (λk s=>s=((k:Int),jC b m k)) (λk s c d=>?_) (λs d=>?_) (by show _=_;congr 1)
 .subst d;have hr:=h ⟨k,c⟩;have f:Η m (k:Int)=m ⟨k,c⟩:=Õ c;have d:Η (jC b m k) (k:Int)=b ⟨k,c⟩:=by rw[Cb c];unfold jC;rw[if_neg (Nat.lt_irrefl _)]
  have i:(El m (k:Int) (jC b m k)).wp (Out (λs'=>s'=(((k+1:Nat):Int),jC b m (k+1))) λo=>o=.inr (jC b m 8)):=by
   refine⟨⟨ŉ,ŉ⟩,?_⟩;have e:=ZvJ (b:=b) (m:=m) c;by_cases a:b ⟨k,c⟩=true
   .refine Cq.wp.yes (by rw[d];exact a) ⟨⟨ŉ,ŉ⟩,?_⟩;show _=_;rw[χ ŉ,<-e,a];rfl
   refine Cq.wp.no (by rw[d];exact a) ⟨⟨ŉ,ŉ⟩,?_⟩;show _=_;rw[χ ŉ,<-e,ź.2 a,f];rfl
  refine Cq.wp.yes ŉ ⟨⟨ŉ,ŉ⟩,Cq.wp.no (by rw[f];omega) (Cq.wp.no (by rw[f];omega) ?_)⟩;by_cases g:m ⟨k,c⟩<0
  .refine Cq.wp.yes (by rw[f];exact g) ⟨⟨ŉ,ŉ⟩,Cq.wp.no (by rw[d,j _ g];decide) i⟩
  exact Cq.wp.no (by rw[f];exact g) i
 subst d;exact Cq.wp.no ĳ rfl
theorem Fi{o:Ord}(h:kF o):(yE o).Γ true:=by
 have l:=h.len;refine Cq.wp.no ŉ ?_;show(Cq.next _ _).wp _;refine Cq.Zo o.length (λi s=>s=((i:Int),sV (o.take i))) (λi s hi e=>?_) (λs e=>?_) rfl
 .subst e;refine Cq.wp.yes ŉ ⟨_,Ξ hi,Cq.fi (ZyD (h.row _ (ă hi)) λk j=>?_) ?_⟩
  .have a:=h.V1 k;rw[<-Ń (i+1) o,Ī]at a;have a:=Zvg a;rw[P4 hi (λm=>m k),Rz]at a;by_cases c:gl ((o.take i).map λm=>m k)=0
   .rw[ą c]at a;omega
   unfold sV;rw[dV];unfold gl at c;cases d:((o.take i).map λm=>m k).find? λx=>x != 0 with
   |none=>rw[d]at c;exact absurd rfl c
   |some y=>
    have f:=ej d;have h2:=aaj d;obtain⟨m,g,rfl⟩:=Ğ.1 f;exact⟨m,g,by simpa using h2⟩
  show _=_;rw[χ ŉ,č hi];congr 2;funext k;unfold jC sV;rw[ą k.isLt,List.any_append];simp
 subst e;exact Cq.wp.no ŉ rfl
theorem Zyi:(ã 0 7 λk=>runs 20 (KQ (u8.wrap (1*2 ^ (min k.toNat u8.bits)))) (jh k.toNat 1))=true:=by decide +kernel
theorem ZyL{k:Nat}(a:k<8):(FU (k:Int) 1).Γ (jh k 1):=⟨⟨ŉ,ŉ⟩,by
 show _=_;funext i;unfold ζ jh;rw[Ĕ]⟩
theorem Rf(o:Ord){k:Nat}(a:k<8):o++gV.take (k+1)=(o++gV.take k)++[jh k 1]:=by
 have c:k<gV.length:=by simpa[gV]using a
 rw[č c,Đ];simp[gV]
theorem Zxe{o:Ord}(h:mq o=true):(E3 o).Γ ((õ o o.length).length:Int)/\(FT o).Γ ((õ o o.length).length:Int):=by unfold mq at h;simp only[Ĉ,Ę]at h;obtain⟨⟨⟨⟨⟨a,h2⟩,_⟩,c⟩,d⟩,e⟩:=h;exact⟨by have:=ZvT ŉ a d;rwa [e]at this,Zv1 ŉ c⟩
theorem ZxI{o:Ord}(h:mq o=true)(j:(õ o o.length).length=8\/o.length<=16):(KP o).Γ (eK o,0)/\(Ly o).Γ (eK o,0):=by
 have i:=kF.of h;obtain⟨m,n⟩:=Zxe h;have p:=i.len;have d:([]++o).length<=small:=by rw[ļ];simp only[small];omega
 have l:gV.take 8=gV:=ě (by simp[gV]);constructor
 .refine⟨_,Fi i,Cq.wp.no ĳ ⟨o,⟨λe=>by rw[e];rfl,d,rfl⟩,_,m,?_⟩⟩;by_cases a:(õ o o.length).length=8
  .refine Cq.wp.yes ŉ ?_;show _=_;unfold eK;rw[ą a]
  have g:=j.resolve_left a;refine Cq.wp.no ŉ (Cq.wp.no (by rw[wrap64 ŉ];omega) ?_);show(Cq.next _ _).wp _;refine Cq.Zo 8 (λk s=>s=(o++gV.take k,(k:Int))) (λk s f c=>?_) (λs c=>?_) (by show _=_;simp)
  .subst c;have:=Zr (Zq Zyi (x:=(k:Int)) ŉ ŉ);refine Cq.wp.yes ŉ ⟨ŉ,_,this,by simp only[Ā,Č,Ě,Ļ];simp only[small];omega,?_⟩;show _=_;rw[χ ŉ,Rf o f];rfl
  subst c;refine Cq.wp.no ĳ ?_;show _=_;unfold eK;rw[ā a,l]
 refine⟨_,EI i,Cq.wp.no ĳ ⟨d,_,n,?_⟩⟩;by_cases a:(õ o o.length).length=8
 .refine Cq.wp.yes ŉ ?_;show _=_;unfold eK;rw[ą a];rfl
 have g:=j.resolve_left a;refine Cq.wp.no ŉ (Cq.wp.no ŉ ?_);show(Cq.next _ _).wp _;refine Cq.Zo 8 (λk s=>s=(o++gV.take k,(k:Int))) (λk s f c=>?_) (λs c=>?_) (by show _=_;simp)
 .subst c;refine Cq.wp.yes ŉ ⟨_,ZyL f,by simp only[Ā,Č,Ě,Ļ];simp only[small];omega,?_⟩;show _=_;rw[χ ŉ,Rf o f]
 subst c;refine Cq.wp.no ĳ ?_;show _=_;unfold eK;rw[ā a,l]
theorem Zyt{π:Fin 8->Int}(h:Ì π){V:Ord}{k:Nat}(d:k<V.length)(e:V[k]=λ_=>0)(m:Fin 8->Int):(PC π (k:Int) m (V,0)).Γ (V.set k (fx π m)):=by
 refine Cq.Zo 8 (λj s=>s=(V.set k (ep π m j),(j:Int))) (λj s a c=>?_) (λs c=>?_) (by show _=_;rw[show ep π m 0=V[k]from e.symm,L5 d];rfl)
 .subst c;have r:=h.ot ⟨j,a⟩;refine Cq.wp.yes ŉ ⟨⟨ŉ,ŉ⟩,⟨ŉ,ŉ⟩,_,Gp d _,by rw[Õ a];exact r,?_⟩;show _=_;rw[χ ŉ,Õ a,Õ a,Ĕ,List.set_set];simp only[ep,ŷ a]
 subst c;exact Cq.wp.no ĳ rfl
theorem SV{π:Fin 8->Int}(c:Ì π){o:Ord}(h:mq o=true)(v:(õ o o.length).length=8\/o.length<=16):(JY o π).Γ (dN π (eK o),0)/\(J8 o π).Γ (dN π (eK o),0):=by
 have t:=kF.of h;obtain⟨f1,f2⟩:=ZxI h v;have x:(eK o).length<=40:=by
  have:=t.len;unfold eK;split
  .omega
  rw[Ā];simp[gV];omega
 generalize eK o=F at *;constructor
 .refine⟨_,Fi t,Cq.wp.no ĳ ?_⟩;show(Cq.next _ _).wp _;refine Cq.Zo 8 (λk s=>∃p:Fin 8->Bool,s=((k:Int),p)/\∀j,p j=true->∃i:Fin 8,i.val<k/\(j.val:Int)=π i) (λk s d a=>?_) (λs a=>?_) ⟨_,rfl,λj f=>by cases f⟩
  .obtain⟨p,rfl,q⟩:=a;have r:=c.ot ⟨k,d⟩;refine Cq.wp.yes ŉ ⟨⟨ŉ,ŉ⟩,?_⟩;rw[Õ d];refine Cq.wp.no ŉ (Cq.wp.no ŉ ⟨r,Cq.wp.no (Gn c d q) ⟨r,?_⟩⟩);rw[χ ŉ];exact⟨_,rfl,FB c d q⟩
  obtain⟨p,rfl,q⟩:=a;refine Cq.wp.no ĳ ?_;show(PD o π).wp _;refine⟨_,f1,Cq.wp.no (λe=>e rfl) ⟨⟨ŉ,by show((F.length:Nat):Int)<=1000000;omega⟩,?_⟩⟩;rw[Ĕ];show(Cq.next _ _).wp _;have n:(dN π F).length=(List.replicate F.length (λ_:Fin 8=>(0:Int))).length:=by unfold dN;rw[List.length_map,List.length_replicate]
  refine Cq.Zo F.length (λk s=>s=(fa (dN π F) (List.replicate F.length (λ_=>0)) k,(k:Int))) (λk s d a=>?_) (λs a=>?_) rfl
  .subst a;have g:k<(List.replicate F.length (λ_:Fin 8=>(0:Int))).length:=by rw[Ĺ];exact d
   have l:k<(fa (dN π F) (List.replicate F.length (λ_=>0)) k).length:=by rw[SP n];exact g
   have u:(fa (dN π F) (List.replicate F.length (λ_=>0)) k)[k]=λ_=>0:=by have:=LM n g;rw[Ą l]at this;rw[ŧ this,List.getElem_replicate]
   refine Cq.wp.yes (by show(k:Int)<((F.length:Nat):Int);omega) ⟨_,Ξ d,Cq.fi (Zyt c l u F[k]) ?_⟩;show _=_;rw[χ ŉ,<-A7 n g];congr 3;simp[dN]
  subst a;refine Cq.wp.no (by show ¬(F.length:Int)<((F.length:Nat):Int);omega) ?_;show _=_;rw[E0 n (by rw[n,Ĺ];exact ĉ _)]
 refine⟨_,EI t,Cq.wp.no ĳ ⟨_,ZlS c,Cq.wp.no ĳ ⟨_,f2,Cq.wp.no (λe=>e rfl) ?_⟩⟩⟩;show(Cq.next _ _).wp _;refine Cq.Zo F.length (λk s=>s=(dN π (F.take k),(k:Int))) (λk s d a=>?_) (λs a=>?_) rfl
 .subst a;have m:(PT π (F,0) (k:Int) (0,λ_=>0)).Γ (fx π F[k]):=by
   refine Cq.Zo 8 (λj s=>s=((j:Int),ep π F[k] j)) (λj s f a=>?_) (λs a=>?_) rfl
   .subst a;have r:=c.ot ⟨j,f⟩;refine Cq.wp.yes ŉ ⟨⟨ŉ,ŉ⟩,F[k],Ξ d,⟨ŉ,ŉ⟩,by rw[Õ f];exact r,?_⟩;show _=_;rw[χ ŉ,Õ f,Õ f];simp only[ep,ŷ f]
   subst a;exact Cq.wp.no ĳ rfl
  refine Cq.wp.yes (by show(k:Int)<((F.length:Nat):Int);omega) (Cq.fi m ⟨by unfold dN;simp only[List.length_append,List.length_map,List.length_take,List.length_cons,List.length_nil];simp only[small];omega,?_⟩);show _=_;rw[χ ŉ,č d];unfold dN;rw[Ī];rfl
 subst a;refine Cq.wp.no (by show ¬(F.length:Int)<((F.length:Nat):Int);omega) ?_;show _=_;rw[Ħ]
end Go.EL

namespace Go.EL
open Go.IntKind (i8 i16 i32 i64 u8 u16 u32 u64)
open Go Go.RowKit
theorem Zw8:(((Α 1)++(Α 2)).all λπ=>(Α 3).any λσ=>decide (σ=π))=true:=by decide +kernel
theorem yf{n:Nat}(h:1<=n/\n<=3){π:Fin 8->Int}(a:π∈Α n):π∈Α 3:=by
 have key:∀σ∈Α 1++Α 2,σ∈Α 3:=λσ c=>by obtain⟨τ,d,h2⟩:=dV.1 (Ć.1 Zw8 σ c);rw[<-ĥ h2];exact d
 match n,h with
 |1,_=>exact key _ (List.mem_append_left _ a)
 |2,_=>exact key _ (List.mem_append_right _ a)
 |3,_=>exact a
def jY(o:Ord):Prop:=o∈kQ\/∃f∈kQ,∃π∈Α 3,o=dN π (eK f)
theorem R8{o:Ord}(h:sJ o=true):mq o=true/\(õ o o.length).length=8:=by unfold sJ at h;rw[Ĉ]at h;exact⟨h.1,ĵ h.2⟩
theorem jY.b{o:Ord}(h:jY o):mq o=true/\((õ o o.length).length=8\/o.length<=16):=by
 rcases h with h|⟨f,d,π,a,rfl⟩
 .have:=Ć.1 ZzY o h;rw[Ĉ,Ę]at this;exact this
 obtain⟨c,h2⟩:=R8 (Ts f d π a);exact⟨c,.inl h2⟩
theorem Zvx{σ τ:Fin 8->Int}(a:σ∈Α 3)(c:τ∈Α 3)(o:Ord):dN σ (dN τ o)=dN (gK σ τ) o:=by unfold dN;rw[eu];exact Ů λm _=>Sa ⟨ĳ,ĳ⟩ a c m
theorem jY.full{o:Ord}(h:jY o):eK (eK o)=eK o/\∀π∈Α 3,jY (dN π (eK o))/\eK (dN π (eK o))=dN π (eK o):=by
 have key:∀f∈kQ,∀π∈Α 3,eK (dN π (eK f))=dN π (eK f):=λf d π a=>by obtain⟨l,h2⟩:=R8 (Ts f d π a);exact ą h2
 have e:(λi:Fin 8=>(i.val:Int))∈Α 3:=by rw[tX];exact aao
 have g:∀o:Ord,dN (λi=>(i.val:Int)) o=o:=λo=>by unfold dN;have:∀m∈o,fx (λi=>(i.val:Int)) m=m:=λm _=>funext λj=>ug (oe ⟨ĳ,ĳ⟩ e).perm m j j rfl;rw[Ů this,List.map_id']
 rcases h with h|⟨f,d,τ,c,rfl⟩
 .refine⟨?_,λπ a=>⟨.inr ⟨o,h,π,a,rfl⟩,key o h π a⟩⟩;have:=key o h _ e;rwa [g]at this
 rw[key f d τ c];refine⟨key f d τ c,λπ a=>?_⟩;rw[Zvx a c];have k:=(kY (n:=3) ⟨ĳ,ĳ⟩ c).1 π a;exact⟨.inr ⟨f,d,_,k,rfl⟩,key f d _ k⟩
structure eY (q:Zb):Prop where
 p:Β q.p
 o:jY q.o
theorem eY.w{q:Zb}(h:eY q):rK q:=⟨h.p,by have:=(kF.of h.o.b.1).len;omega⟩
theorem eY.nil(kind:Int):eY ⟨kind,[],[]⟩:=⟨(Β.of ĳ:Β []),.inl (by unfold kQ;simp)⟩
theorem FE{p:Ù}{n:Nat}:lF n p↔(ð p).toNat<2 ^ n:=by
 rw[<-yP,ů];constructor
 .intro h;rcases lv.1 h with h|h
  .have:=aab n;omega
  exact h
 exact aaI
def eQ(k:Zc)(q:Zb):Bool:=decide (1<=q.kind/\q.kind<=10)&&Ð q.p k.n&&(decide (q.kind=1\/q.kind=7\/q.kind=9) || decide (q.p=[]))&&(decide (q.kind=3) || decide (q.o=[]))
theorem Sg(q:Zb):(Ei q).Γ (decide (q.kind=1\/q.kind=7\/q.kind=9) || decide (q.p=[])):=by
 have e:decide ((q.p.length:Int)=0)=decide (q.p=[]):=by
  cases q.p with
  |nil=>rfl
  |cons a l=>simp;omega
 by_cases c:q.kind=1
 .exact Cq.wp.yes c (Cq.wp.yes c (by show _=_;rw[Ă (Or.inl c)];rfl))
 by_cases h7:q.kind=7
 .exact Cq.wp.no c (Cq.wp.yes h7 (Cq.wp.yes h7 (by show _=_;rw[Ă (Or.inr (Or.inl h7))];rfl)))
 by_cases d:q.kind=9
 .exact Cq.wp.no c (Cq.wp.no h7 (Cq.wp.yes d (by show _=_;rw[Ă (Or.inr (Or.inr d))];rfl)))
 refine Cq.wp.no c (Cq.wp.no h7 (Cq.wp.no d ?_));show _=_;rw[e,ċ (p:=q.kind=1\/_) ŉ,Ľ]
theorem ZvE{q:Zb}(h:eY q):(J4 q).Γ ((decide (q.kind=1\/q.kind=7\/q.kind=9) || decide (q.p=[]))&&(decide (q.kind=3) || decide (q.o=[]))):=by
 refine⟨true,Fi (kF.of h.o.b.1),?_⟩;cases c:q.o with
 |nil=>
  refine Cq.wp.no ĳ ?_;rw[Ă (p:=([]:Ord)=[]) rfl,abA,abO];exact Sg q
 |cons a l=>
  refine Cq.wp.yes (by rw[Ě];omega) ?_;rw[ċ (p:=a::l=[]) ß,abP];by_cases h3:q.kind=3
  .refine Cq.wp.no (λe=>e h3) ?_;rw[Ă h3,abO];exact Sg q
  refine Cq.wp.yes h3 ?_;show _=_;rw[ċ h3,Bool.and_false]
theorem Sq{k:Zc}(v:1<=k.n/\k.n<=4){q:Zb}(h:eY q):(E6 k q).Γ (eQ k q):=by
 unfold eQ;by_cases i:q.kind<1
 .refine Cq.wp.yes i ?_;show _=_;rw[ċ (p:=1<=q.kind/\_) ŉ];rfl
 by_cases c:10<q.kind
 .refine Cq.wp.no i (Cq.wp.yes c ?_);show _=_;rw[ċ (p:=1<=q.kind/\_) ŉ];rfl
 rw[Ă (p:=1<=q.kind/\q.kind<=10) ŉ,ť];refine Cq.wp.no i (Cq.wp.no c ⟨true,D4 h.p,_,yC h.p,?_⟩);obtain⟨n,s⟩:∃n:Nat,k.n=(n:Int):=⟨k.n.toNat,ŉ⟩;rw[s]at v⊢;have nj:1<=n/\n<=4:=ŉ;by_cases m:12<gk q.p
 .refine Cq.wp.yes m ?_;show _=_;have:Ð q.p (n:Int)=false:=by
   cases j:Ð q.p (n:Int)with
   |false=>rfl
   |true=>have:=(Fv j).2;omega
  rw[this];rfl
 refine Cq.wp.no m ⟨_,FO h.p.len,ŉ,?_⟩;have x:=ui q.p;have d:∀t∈q.p,fG t.m<=12:=(tC ĳ).1 ŉ;have a:(Int.fdiv (ð q.p) (2 ^ (min (n:Int).toNat u8.bits))=0)↔(ð q.p).toNat<2 ^ n:=by
  obtain⟨u,l⟩:∃u:Nat,ð q.p=(u:Int):=⟨(ð q.p).toNat,ŉ⟩;have r:Int.fdiv (ð q.p) (2 ^ (min (n:Int).toNat u8.bits))=((u / 2 ^ n:Nat):Int):=by rw[l,Ĕ,Ž (show n<=u8.bits from ň nj.2 ĳ),aae _ (Int.le_of_lt (Int.pow_pos ĳ))];push_cast;rfl
  rw[r,l,Ĕ];have hp:=aab n;constructor
  .intro g;have g:u / 2 ^ n=0:=ŉ;rcases lv.1 g with h|h
   .omega
   exact h
  intro g;rw[aaI g];rfl
 by_cases f:(ð q.p).toNat<2 ^ n
 .refine Cq.wp.no (λe=>e (a.2 f)) ?_;rw[(pC ŉ).2 ⟨FE.2 f,d⟩,ť];exact ZvE h
 refine Cq.wp.yes (λe=>f (a.1 e)) ?_;show _=_;have:Ð q.p (n:Int)=false:=by
  cases j:Ð q.p (n:Int)with
  |false=>rfl
  |true=>exact absurd (FE.1 ((pC ŉ).1 j).1) f
 rw[this];rfl
end Go.EL

namespace Go.EL
open Go.IntKind (i8 i16 i32 i64 u8 u16 u32 u64)
open Go Go.RowKit
theorem LG(kind:Int):(Eu kind).Γ (decide (kind=1\/kind=7\/kind=9)):=by
 by_cases a:kind=1
 .exact Cq.wp.yes a (by show _=_;rw[Ă (Or.inl a)])
 by_cases h7:kind=7
 .exact Cq.wp.no a (Cq.wp.yes h7 (by show _=_;rw[Ă (Or.inr (Or.inl h7))]))
 refine Cq.wp.no a (Cq.wp.no h7 ?_);show _=_;by_cases c:kind=9
 .rw[Ă c,Ă (p:=kind=1\/_) ŉ]
 rw[ċ c,ċ (p:=kind=1\/_) ŉ]
theorem Ztl(q:Zb):(JM q).Γ ((decide (q.kind=1\/q.kind=7\/q.kind=9) || decide (q.p=[]))&&(decide (q.kind=3) || decide (q.o=[]))):=by
 have key:((if(q.o.length:Int)=0 then Cq.ret true else Cq.ret (decide (q.kind=3))):Cq Bool).Γ (decide (q.kind=3) || decide (q.o=[])):=by
  cases c:q.o with
  |nil=>exact Cq.wp.yes rfl (by show _=_;simp)
  |cons a l=>exact Cq.wp.no (by rw[Ě];omega) (by show _=_;simp)
 cases hp:q.p with
 |nil=>
  refine Cq.wp.yes (by rw[hp];rfl) ?_;rw[Ă (p:=([]:Ù)=[]) rfl,abA,ť];exact key
 |cons a l=>
  refine Cq.wp.no (by rw[hp,Ě];omega) ⟨_,LG _,?_⟩;rw[ċ (p:=a::l=[]) ß,abP];cases decide (q.kind=1\/q.kind=7\/q.kind=9)with
  |false=>rfl
  |true=>rw[ť];exact key
theorem Zu2{k:Zc}(m:1<=k.n/\k.n<=4){q:Zb}(h:eY q):(KY k q).Γ (eQ k q):=by
 unfold eQ;by_cases f:q.kind<1
 .refine Cq.wp.yes f ?_;show _=_;rw[ċ (p:=1<=q.kind/\_) ŉ];rfl
 by_cases a:10<q.kind
 .refine Cq.wp.no f (Cq.wp.yes a ?_);show _=_;rw[ċ (p:=1<=q.kind/\_) ŉ];rfl
 rw[Ă (p:=1<=q.kind/\q.kind<=10) ŉ,ť];refine Cq.wp.no f (Cq.wp.no a ⟨true,Ao h.p,_,w9 h.p,?_⟩);obtain⟨n,l⟩:∃n:Nat,k.n=(n:Int):=⟨k.n.toNat,ŉ⟩;rw[l]at m⊢;have nj:1<=n/\n<=4:=ŉ;by_cases i:12<gk q.p
 .refine Cq.wp.yes i ?_;show _=_;have:Ð q.p (n:Int)=false:=by
   cases g:Ð q.p (n:Int)with
   |false=>rfl
   |true=>have:=(Fv g).2;omega
  rw[this];rfl
 have r:=ui q.p;have c:∀t∈q.p,fG t.m<=12:=(tC ĳ).1 ŉ;have e:u64.wrap (n:Int)=(n:Int):=qG ⟨ŉ,ŉ⟩;have d:i64.wrap (1*2 ^ (min (n:Int).toNat i64.bits))=((2 ^ n:Nat):Int):=by
  match n,nj with
  |1,_=>rfl
  |2,_=>rfl
  |3,_=>rfl
  |4,_=>rfl
 refine Cq.wp.no i ⟨_,An h.p.len,by rw[e];omega,?_⟩;rw[e,d,wrap64 ŉ];by_cases j:(ð q.p).toNat<2 ^ n
 .refine Cq.wp.no ŉ ⟨true,EI (kF.of h.o.b.1),Cq.wp.no ĳ ?_⟩;rw[(pC ŉ).2 ⟨FE.2 j,c⟩,ť];exact Ztl q
 refine Cq.wp.yes ŉ ?_;show _=_;have:Ð q.p (n:Int)=false:=by
  cases g:Ð q.p (n:Int)with
  |false=>rfl
  |true=>exact absurd (FE.1 ((pC ŉ).1 g).1) j
 rw[this];rfl
structure dR (k:Zc):Prop where
 ok:æ k
 n3:k.n<=3
theorem dR.nn{k:Zc}(h:dR k):1<=k.n.toNat/\k.n.toNat<=3:=by have:=h.ok.n;have:=h.n3;omega
theorem dR.perm{k:Zc}(h:dR k):(Θ k).2∈Α k.n.toNat:=by obtain⟨ρ,a,e⟩:=(yS k).1;rw[e];exact a
theorem dR.kc{k:Zc}(h:dR k):(Θ k).2∈Α 3:=yf h.nn h.perm
theorem dR.canon{k:Zc}(h:dR k):dR (Θ k).1:=by refine⟨Zu8 h.ok,?_⟩;obtain⟨ρ,a,e⟩:=(yS k).1;rw[e];show(é k ρ).n<=3;rw[vy h.ok a];exact h.n3
theorem dR.UH{k:Zc}(h:dR k):(Θ k).1.n=k.n:=by obtain⟨ρ,a,e⟩:=(yS k).1;rw[e];show(é k ρ).n=k.n;rw[vy h.ok a]
def Æ(q:Zb)(π:Fin 8->Int):Zb:=⟨q.kind,Ο π q.p,if q.kind=3 then dN π (eK q.o)else[]⟩
theorem gm{π:Fin 8->Int}(h:π∈Α 3):Ì π:=(oe ⟨ĳ,ĳ⟩ h).perm
theorem SH{q:Zb}(h:eY q){π:Fin 8->Int}(a:π∈Α 3):eY (Æ q π):=by
 refine⟨Z1 (gm a) h.p,?_⟩;unfold Æ;dsimp only;split
 .exact (h.o.full.2 π a).1
 exact(eY.nil 0).o
theorem Qp{q:Zb}(h:eY q){π:Fin 8->Int}(a:π∈Α 3):(Eo q π).Γ (Æ q π,0):=by
 refine⟨_,Ay (gm a) h.p,Cq.wp.no (λe=>e rfl) ?_⟩;unfold Æ;by_cases h3:q.kind=3
 .refine Cq.wp.yes h3 ⟨_,(SV (gm a) h.o.b.1 h.o.b.2).1,Cq.wp.no (λe=>e rfl) ?_⟩;show _=_;rw[ą h3]
 refine Cq.wp.no h3 ?_;show _=_;rw[ā h3]
def iv(k:Zc)(q:Zb):ZE:=if eQ k q=true then⟨(Θ k).1,Æ q (Θ k).2,0⟩else⟨iK,⟨0,[],[]⟩,1⟩
theorem Rl{k:Zc}{q:Zb}(c:dR k)(h:eY q):(A3 k q).Γ (iv k q):=by
 have a:=c.kc;refine⟨true,Ku c.ok,_,Zu2 c.ok.n h,?_⟩;unfold iv;cases hr:eQ k q with
 |false=>exact Cq.wp.yes rfl (by show _=_;rw[ā ĳ];rfl)
 |true=>
  rw[ą rfl];refine Cq.wp.no ĳ ⟨_,ZuV c.ok,_,Ji (gm a) h.p,?_⟩;unfold Æ;by_cases h3:q.kind=3
  .refine Cq.wp.yes h3 ⟨_,(SV (gm a) h.o.b.1 h.o.b.2).2,Cq.wp.no (λe=>e rfl) ?_⟩;show _=_;rw[ą h3]
  refine Cq.wp.no h3 (Cq.wp.no (λe=>e rfl) ?_);show _=_;rw[ā h3]
structure lD (t:Ze):Prop where
 k:jL t.k
 q:rK t.q
def oO(k:Zc)(q:Zb)(t:Ze):Bool:=decide (ü t.k=ü k)&&decide (hU t.q=hU q)
def MO(l:Ŀ Ze)(k:Zc)(q:Zb):Int:=match l.findIdx? (oO k q)with
 |some i=>(i:Int)
 |none=>-1
theorem ZAn{b:Zd}(u:b.t.length<=1000)(h:∀t∈b.t,lD t){k:Zc}{q:Zb}(p:jL k)(r:rK q):(Mo b k q).Γ (MO b.t k q):=by
 have key:∀(m i:Nat),m+i=b.t.length->(Fp b k q (i:Int)).wp λo=>o=(match(b.t.drop i).findIdx? (oO k q)with|some j=>.inl ((i+j:Nat):Int)|none=>.inr ()):=by
  intro m;induction m with
  |zero=>
   intro i hi;refine Cq.Zt (Cq.wp.no ŉ ?_);rw[Ķ ŉ];rfl
  |succ m s=>
   intro i hi;have c:i<b.t.length:=ŉ;have n:=h _ (ă c);have l:b.t.drop i=b.t[i]::b.t.drop (i+1):=ĭ c;have a:oO k q b.t[i]=false->(Fp b k q ((i+1:Nat):Int)).wp λo=>o=(match(b.t.drop i).findIdx? (oO k q)with|some j=>.inl ((i+j:Nat):Int)|none=>.inr ()):=λe=>by
    refine Cq.mono _ (λo g=>?_) (s (i+1) ŉ);rw[g,l,List.findIdx?_cons,e];cases(b.t.drop (i+1)).findIdx? (oO k q)with
    |none=>rfl
    |some j=>show Sum.inl ((i+1+j:Nat):Int)=Sum.inl ((i+(j+1):Nat):Int);rw[show i+1+j=i+(j+1) by omega]
   refine Cq.Zt (Cq.wp.yes ŉ ⟨_,Ξ c,_,Fq n.k p,?_⟩);cases f:decide (ü b.t[i].k=ü k)with
   |false=>
    show(Cq.loop _ _).wp _;rw[χ ŉ];exact a (by unfold oO;rw[f];rfl)
   |true=>
    refine⟨_,Ξ c,_,Tb n.q r,?_⟩;cases d:decide (hU b.t[i].q=hU q)with
    |true=>
     refine Cq.wp.yes rfl ?_;show _=_;rw[l,List.findIdx?_cons,show oO k q b.t[i]=true by unfold oO;rw[f,d];rfl];rfl
    |false=>
     refine Cq.wp.no ĳ ?_;show(Cq.loop _ _).wp _;rw[χ ŉ];exact a (by unfold oO;rw[f,d];rfl)
 show(Cq.next _ _).wp _;refine Cq.mono (Fp b k q 0) (λo g=>?_) (key b.t.length 0 ŉ);rw[g,aa9];unfold MO;cases b.t.findIdx? (oO k q)with
 |none=>rfl
 |some j=>show _=_;rw[Ň]
end Go.EL

namespace Go.EL
open Go.IntKind (i8 i16 i32 i64 u8 u16 u32 u64)
open Go Go.RowKit
abbrev qT:Fin 8->Int:=λi=>(i.val:Int)
theorem Ztq{k:Zc}(h:æ k):Θ (Θ k).1=((Θ k).1,qT):=by
 have l:1<=k.n.toNat/\k.n.toNat<=4:=by have:=h.n;omega
 obtain⟨⟨ρ,d,m⟩,n⟩:=yS k;have f:(Θ k).1=é k ρ:=by rw[m]
 have g:(Θ k).1.n=k.n:=by rw[f,vy h d]
 have i:qT∈Α k.n.toNat:=by rw[tX];exact aao
 have c:é (Θ k).1 qT=(Θ k).1:=by rw[f,E4 h i d,id_comp l d]
 have j:∀π∈Α k.n.toNat,¬Op.bytesLess (ü (é (Θ k).1 π)).toList (ü (Θ k).1).toList=true:=λπ a=>by rw[show é (Θ k).1 π=é k (gK π ρ) by rw[f,E4 h a d]];exact n _ ((kY l d).1 π a)
 have e:Θ (Θ k).1=fk (Θ k).1 (Α (Θ k).1.n.toNat).tail (é (Θ k).1 qT,qT):=rfl;rw[e,c,g];exact SE _ _ _ λπ a=>j π (List.mem_of_mem_tail a)
theorem NA:qT∈Α 3:=by rw[tX];exact aao
theorem Zyl(o:Ord):dN qT o=o:=by unfold dN;have:∀m∈o,fx qT m=m:=λm _=>funext λj=>ug (gm NA) m j j rfl;rw[Ů this,List.map_id']
theorem Zpy{q:Zb}(h:eY q){π:Fin 8->Int}(a:π∈Α 3):Æ (Æ q π) qT=Æ q π:=by
 have hp:=Zym (n:=3) ⟨ĳ,ĳ⟩ (Z1 (gm a) h.p);show Zb.mk q.kind (Ο qT (Ο π q.p)) (if q.kind=3 then dN qT (eK (if q.kind=3 then dN π (eK q.o)else[]))else[])=Zb.mk q.kind (Ο π q.p) (if q.kind=3 then dN π (eK q.o)else[]);rw[hp];by_cases h3:q.kind=3
 .rw[ą h3,ą h3,Zyl,(h.o.full.2 π a).2]
 rw[ā h3,ā h3]
theorem Lh{kind:Int}{x:Zb}(h:x∈ó kind):x=⟨x.kind,[],[]⟩/\(x.kind=4\/x.kind=5\/x.kind=6):=by
 unfold ó at h;split at h
 .rw[Ē.1 h];exact⟨rfl,ĳ⟩
 split at h
 .rw[Ē.1 h];exact⟨rfl,ĳ⟩
 split at h
 .rw[Ē.1 h];exact⟨rfl,ĳ⟩
 cases h
theorem EN{kind:Int}{x:Zb}(h:x∈ó kind)(π:Fin 8->Int):Æ x π=x:=by obtain⟨e,a⟩:=Lh h;rw[e];show Zb.mk x.kind (Ο π []) (if x.kind=3 then _ else[])=_;rw[ā ŉ,Lk]
theorem EO{kind:Int}{x:Zb}(h:x∈ó kind){k:Zc}(c:æ k):eQ k x=true:=by
 obtain⟨e,g⟩:=Lh h;have f:Ð [] k.n=true:=by obtain⟨n,d⟩:∃n:Nat,k.n=(n:Int):=⟨k.n.toNat,by have:=c.n;omega⟩;have:=c.n;rw[d];exact(pC ŉ).2 ⟨λt a=>(nomatch a),λt a=>(nomatch a)⟩
 rw[e];unfold eQ;dsimp only;rw[f,Ă (p:=1<=x.kind/\x.kind<=10) ŉ];simp
theorem LR{kind:Int}{x:Zb}(h:x∈ó kind):eY x:=by rw[(Lh h).1];exact eY.nil _
def wI(k:Zc):Prop:=dR k/\Θ k=(k,qT)
theorem dR.can{k:Zc}(h:dR k):wI (Θ k).1:=⟨h.canon,Ztq h.ok⟩
structure ic (k:Zc) (q:Zb):Prop where
 ck:wI k
 cq:eY q
 self:Æ q qT=q
 right:eQ k q=true
theorem ZwG{k:Zc}(h:dR k){p:Ù}(hp:Β p)(c:Ð p k.n=true):Ð (Ο (Θ k).2 p) (Θ k).1.n=true:=by rw[h.UH];have d:=h.ok.n;obtain⟨n,a⟩:∃n:Nat,k.n=(n:Int):=⟨k.n.toNat,ŉ⟩;rw[a]at c⊢;have:=h.perm;rw[a,Ĕ]at this;exact K5 ŉ (oe ŉ this) hp c
theorem ZtD{k:Zc}(h:dR k){q:Zb}(e:eY q)(hr:eQ k q=true):eQ (Θ k).1 (Æ q (Θ k).2)=true:=by
 unfold eQ at hr⊢;simp only[Ĉ]at hr⊢;obtain⟨⟨⟨c,h2⟩,h3⟩,d⟩:=hr;refine⟨⟨⟨c,ZwG h e.p h2⟩,?_⟩,?_⟩
 .rw[Ĵ]at h3⊢;rcases h3 with h3|h3
  .exact .inl h3
  refine .inr (Ă ?_);show Ο _ q.p=[];rw[ĥ h3,Lk]
 rw[Ĵ]at d⊢;by_cases a:q.kind=3
 .exact .inl (Ă a)
 refine .inr (Ă ?_);show(if q.kind=3 then _ else[])=([]:Ord);rw[ā a]
theorem ic.of{k:Zc}(h:dR k){q:Zb}(a:eY q)(hr:eQ k q=true):ic (Θ k).1 (Æ q (Θ k).2):=
 ⟨h.can,SH a h.kc,Zpy a h.kc,ZtD h a hr⟩
theorem ic.ls{k:Zc}(h:wI k){kind:Int}{x:Zb}(a:x∈ó kind):ic k x:=⟨h,LR a,EN a _,EO a h.1.ok⟩
theorem ic.iv{k:Zc}{q:Zb}(h:ic k q):iv k q=⟨k,q,0⟩:=by unfold EL.iv;rw[ą h.right,h.ck.2,h.self]
theorem Ud{k m:Zc}{p q:Zb}(a:æ k)(c:æ m):(ü k=ü m/\hU p=hU q)↔gL k p=gL m q:=⟨λh=>by unfold gL;rw[h.1,h.2],λh=>Mp a c h⟩
end Go.EL

namespace Go.EL
open Go.IntKind (i8 i16 i32 i64 u8 u16 u32 u64)
open Go Go.RowKit
abbrev eS(t:Ze):Ĳ:=gL t.k t.q
structure å (B:Zd):Prop where
 can:∀t∈B.t,ic t.k t.q
 ids:∀i (h:i<B.t.length),B.t[i].id=(i:Int)+1
 next:B.next=(B.t.length:Int)+1
 Ú:B.t.Pairwise λs t=>eS s≠eS t
 ls:∀i (h:i<B.t.length),∀x∈ó B.t[i].q.kind,∃j,∃(h2:j<B.t.length),j<i/\eS B.t[j]=gL B.t[i].k x
 num:∀t∈B.t,(0<=t.ψ/\t.ψ<=13)/\0<=t.low/\-1<=t.high
def eI(l:Ŀ Ze)(s:Ĳ):ŀ Ze:=l.find? λt=>decide (eS t=s)
theorem E1{l:Ŀ Ze}{s:Ĳ}{t:Ze}(h:eI l s=some t):t∈l/\eS t=s:=⟨ej h,by simpa using aaj h⟩
theorem KL{l:Ŀ Ze}{s:Ĳ}(h:eI l s=none):∀t∈l,eS t≠s:=λt a e=>by have:=List.find?_eq_none.1 h t a;exact this (Ă e)
theorem Zvf(l:Ŀ Ze)(t:Ze)(s:Ĳ):eI (l++[t]) s=match eI l s with|some u=>some u|none=>if eS t=s then some t else none:=by
 unfold eI;rw[abh];cases l.find? λt=>decide (eS t=s)with
 |some u=>rfl
 |none=>
  simp only[Option.none_or,abD,List.find?_nil];by_cases h:eS t=s
  .rw[Ă h,ą h]
  rw[ċ h,ā h]
def lu(B:Zd)(c:Zc)(q:Zb):Ze:=⟨B.next,c,q,0,0,-1,false⟩
def gv(B:Zd)(c:Zc)(q:Zb):Zd×Int:=match eI B.t (gL c q)with
 |some t=>(B,t.id)
 |none=>(⟨B.t++[lu B c q],B.next+1⟩,B.next)
def fg:Nat->Zd->Zc->Zb->Zd×Int
 |0,B,_,_=>(B,0)
 |n+1,B,c,q=>gv ((ó q.kind).foldl (λb x=>(fg n b c x).1) B) c q
def jR(kind:Int):Nat:=if kind=7 then 4 else if kind=6\/kind=10 then 3 else if kind=5\/kind=8 then 2 else 1
theorem tz(kind:Int):(ó kind=[]/\1<=jR kind)\/∃x,ó kind=[x]/\jR x.kind+1<=jR kind:=by
 unfold ó;split
 .refine .inr ⟨_,rfl,?_⟩;rename_i h;rcases h with rfl|rfl<;>decide
 split
 .refine .inr ⟨_,rfl,?_⟩;rename_i h;rcases h with rfl|rfl<;>decide
 split
 .refine .inr ⟨_,rfl,?_⟩;rename_i h;subst h;decide
 refine .inl ⟨rfl,?_⟩;unfold jR;repeat' split
 all_goals decide
structure Grown (B B':Zd) (m:Nat):Prop where
 ok:å B'
 pre:B.t <+: B'.t
 len:B'.t.length<=B.t.length+m
theorem LY{B:Zd}(h:å B){c:Zc}{q:Zb}(p:ic c q)(u:∀x∈ó q.kind,∃t∈B.t,eS t=gL c x):
  Grown B (gv B c q).1 1/\∃t∈(gv B c q).1.t,eS t=gL c q/\t.id=(gv B c q).2:=by
 unfold gv
 cases k:eI B.t (gL c q)with
 |some t=>
  obtain⟨m,h2⟩:=E1 k
  exact⟨⟨h,List.prefix_rfl,Nat.le_succ _⟩,t,m,h2,rfl⟩
 |none=>
  have g:=KL k
  have f:(B.t++[lu B c q]).length=B.t.length+1:=by rw[Ā];rfl
  refine⟨⟨⟨λt a=>?_,λi hi=>?_,?_,?_,λi hi x d=>?_,λt a=>?_⟩,List.prefix_append _ _,by rw[f];exact ĉ _⟩,lu B c q,ß,rfl,rfl⟩
  .rcases Ĩ.1 a with a|a
   .exact h.can t a
   rw[Ē.1 a];exact p
  .have hi:i<(B.t++[lu B c q]).length:=hi
   rw[f]at hi
   show(B.t++[lu B c q])[i].id=_
   by_cases e:i<B.t.length
   .rw[eG e];exact h.ids i e
   have:i=B.t.length:=ŉ
   subst this
   rw[abc (ĉ _)]
   simp only[aaT,dA]
   exact h.next
  .show B.next+1=((B.t++[lu B c q]).length:Int)+1
   rw[f,h.next];rfl
  .rw[ew]
   refine⟨h.Ú,ū _ _,λs v t a=>?_⟩
   rw[Ē.1 a]
   exact g s v
  .have kr:i<(B.t++[lu B c q]).length:=hi
   rw[f]at kr
   have d:x∈ó ((B.t++[lu B c q])[i]).q.kind:=d
   show ∃j,∃(h2:j<(B.t++[lu B c q]).length),j<i/\eS (B.t++[lu B c q])[j]=gL (B.t++[lu B c q])[i].k x
   by_cases e:i<B.t.length
   .rw[eG e]at d⊢
    obtain⟨j,h2,h3,n⟩:=h.ls i e x d
    exact⟨j,ŉ,h3,by rw[eG h2];exact n⟩
   have:i=B.t.length:=ŉ
   subst this
   rw[abc (ĉ _)]at d⊢
   simp only[aaT,dA]at d⊢
   obtain⟨t,a,r⟩:=u x d
   obtain⟨j,l,e⟩:=ķ.1 a
   exact⟨j,ŉ,l,by rw[eG l,e];exact r⟩
  rcases Ĩ.1 a with a|a
  .exact h.num t a
  rw[Ē.1 a];exact⟨⟨by show(0:Int)<=0;omega,by show(0:Int)<=13;omega⟩,by show(0:Int)<=0;omega,by show(-1:Int)<=-1;omega⟩
theorem Grown.trans{A B C:Zd}{m n:Nat}(h:Grown A B m)(k:Grown B C n):Grown A C (m+n):=⟨k.ok,h.pre.trans k.pre,by have:=h.len;have:=k.len;omega⟩
theorem Grown.up{A B:Zd}{m n:Nat}(h:Grown A B m)(k:m<=n):Grown A B n:=⟨h.ok,h.pre,by have:=h.len;omega⟩
theorem vw:∀{n:Nat}{B:Zd}{c:Zc}{q:Zb},jR q.kind<=n->å B->ic c q->Grown B (fg n B c q).1 (jR q.kind)/\∃t∈(fg n B c q).1.t,eS t=gL c q/\t.id=(fg n B c q).2
 |0,_,_,q,r,_,_=>by
  rcases tz q.kind with ⟨_,h⟩|⟨x,_,h⟩<;>omega
 |n+1,B,c,q,r,k,g=>by
  have e:fg (n+1) B c q=gv ((ó q.kind).foldl (λb x=>(fg n b c x).1) B) c q:=rfl;rw[e];rcases tz q.kind with ⟨a,f⟩|⟨x,a,f⟩
  .rw[a];obtain⟨i,k2⟩:=LY k g (λx d=>by rw[a]at d;cases d);exact⟨i.up f,k2⟩
  rw[a];have d:x∈ó q.kind:=by rw[a];exact Ē.2 rfl
  obtain⟨j,t,m,p,s⟩:=vw (n:=n) (B:=B) (c:=c) (q:=x) ŉ k (ic.ls g.ck d);obtain⟨i,k2⟩:=LY j.ok g (λy l=>by rw[a,Ē]at l;subst l;exact⟨t,m,p⟩);exact⟨(j.trans i).up f,k2⟩
end Go.EL

namespace Go.EL
open Go.IntKind (i8 i16 i32 i64 u8 u16 u32 u64)
open Go Go.RowKit
theorem Bd{K V:Type}[DecidableEq K]:∀(D:Ŀ (K×V)) (k:K) (x:V),(eV D k x).length<=D.length+1
 |[],_,_=>ĉ _
 |p::D,k,x=>by have:=Bd D k x;unfold eV;split<;>simp only[Ě]<;>omega
structure ko (D:Ŀ (Ĳ×Int)) (l:Ŀ Ze):Prop where
 get:∀s,fh D s=(eI l s).map (·.id)
 len:D.length<=l.length
theorem ko.snoc{D:Ŀ (Ĳ×Int)}{l:Ŀ Ze}(h:ko D l){t:Ze}(a:eI l (eS t)=none):ko (eV D (eS t) t.id) (l++[t]) where
 get s:=by
  rw[yY,Zvf,h.get];by_cases e:eS t=s
  .subst e;rw[ą rfl,a];simp
  rw[ā e];cases eI l s with
  |none=>simp[e]
  |some u=>rfl
 len:=by have:=Bd D (eS t) t.id;have:=h.len;rw[Ā];show _<=l.length+1;omega
theorem å.nU{B:Zd}(h:å B){t:Ze}(a:t∈B.t):æ t.k/\rK t.q:=⟨(h.can t a).ck.1.ok,(h.can t a).cq.w⟩
theorem Ui{B:Zd}(h:å B)(m:B.t.length<=98){D:Ŀ (Ĳ×Int)}(a:ko D B.t){c:Zc}{q:Zb}(d:ic c q):
  ∃g,ko g (gv B c q).1.t/\(te c q D B).Γ (((gv B c q).2,0),g,(gv B c q).1):=by
 have i:=za d.ck.1.ok d.cq.w
 have j:=y6 d.ck.1.ok d.cq.w
 have e:=a.get (gL c q)
 unfold gv
 cases f:eI B.t (gL c q)with
 |some t=>
  rw[f]at e
  refine⟨D,a,_,i,j,?_⟩
  rw[show fh D (gL c q)=some t.id from e]
  rfl
 |none=>
  rw[f]at e
  have k:=h.next
  refine⟨eV D (gL c q) B.next,a.snoc (t:=lu B c q) f,_,i,j,?_⟩
  rw[show fh D (gL c q)=none from e]
  have l:=Bd D (gL c q) B.next
  have h2:=a.len
  refine⟨⟨⟨ŉ,ŉ⟩,by simp only[small];omega⟩,?_⟩
  show _=_
  rw[wrap64 ŉ]
  rfl
theorem Vn:∀{n:Nat}{B:Zd}{c:Zc}{q:Zb}{D:Ŀ (Ĳ×Int)},jR q.kind<=n->å B->ic c q->ko D B.t->B.t.length+jR q.kind<=99->
  ∃a,ko a (fg n B c q).1.t/\(vk n c q D B).Γ (((fg n B c q).2,0),a,(fg n B c q).1)
 |0,_,_,q,_,r,_,_,_,_=>by
  rcases tz q.kind with ⟨_,h⟩|⟨x,_,h⟩<;>omega
 |n+1,B,c,q,D,r,i,j,m,A=>by
  have e:fg (n+1) B c q=gv ((ó q.kind).foldl (λb x=>(fg n b c x).1) B) c q:=rfl;have g:=(FF q).1;rw[e];rcases tz q.kind with ⟨f,p⟩|⟨x,f,p⟩
  .rw[f]at g⊢;obtain⟨a,k,k2⟩:=Ui i ŉ m j;exact⟨a,k,_,g,k2⟩
  have s:x∈ó q.kind:=by rw[f];exact Ē.2 rfl
  have d:=ic.ls j.ck s;rw[f]at g⊢;obtain⟨v,t,u⟩:=Vn (n:=n) (B:=B) (c:=c) (q:=x) (D:=D) ŉ i d m ŉ;obtain⟨l,_⟩:=vw (n:=n) (B:=B) (c:=c) (q:=x) ŉ i d;have y:=l.len;obtain⟨a,k,k2⟩:=Ui l.ok ŉ t j;exact⟨a,k,_,g,_,u,rfl,k2⟩
theorem ZzS{B:Zd}(h:å B)(y:B.t.length<=1000):∃D,ko D B.t/\(ER B (0,[])).Γ D:=by
 have key:∀k,k<=B.t.length->∃D,ko D (B.t.take k)/\∀E,(ER B ((k:Int),D)).Γ E->(ER B (0,[])).Γ E:=by
  intro k;induction k with
  |zero=>intro _;exact⟨[],⟨λs=>rfl,ĉ _⟩,λE d=>d⟩
  |succ k r=>
   intro x;obtain⟨D,c,h2⟩:=r ŉ;have a:k<B.t.length:=ŉ;have q:=ă a;obtain⟨l,m⟩:=h.nU q;have f:eI (B.t.take k) (eS B.t[k])=none:=by
    cases n:eI (B.t.take k) (eS B.t[k])with
    |none=>rfl
    |some u=>
     obtain⟨t,v⟩:=E1 n;obtain⟨j,p,e⟩:=ķ.1 t;rw[Č]at p;rw[aad]at e;exact absurd (by rw[e];exact v) (Ģ.1 h.Ú j k ŉ a ŉ)
   have g:=c.snoc f;rw[<-č a]at g;have i:=g.len;rw[Č]at i;refine⟨_,g,λE d=>h2 E (Cq.Zt (Cq.wp.yes ŉ ⟨_,Ξ a,_,za l m,⟨y6 l m,by show(eV D (eS B.t[k]) B.t[k].id).length<=small;simp only[small];omega⟩,?_⟩))⟩;show(Cq.loop _ _).wp _;rw[χ ŉ];exact d
 obtain⟨D,c,h2⟩:=key B.t.length (ĉ _);rw[Ħ]at c;exact⟨D,c,h2 D (Cq.Zt (Cq.wp.no ŉ rfl))⟩
theorem Gw(kind:Int):jR kind<=4:=by
 unfold jR;repeat' split
 all_goals decide
def fv(B:Zd)(k:Zc)(q:Zb):Zd×Int×Int:=if eQ k q=true then((fg 5 B (Θ k).1 (Æ q (Θ k).2)).1,(fg 5 B (Θ k).1 (Æ q (Θ k).2)).2,0)else(⟨[],0⟩,0,1)
theorem xD{B:Zd}(h:å B)(l:B.t.length<=95){k:Zc}{q:Zb}(a:dR k)(c:eY q):(uh B k q).Γ (fv B k q):=by
 refine⟨true,EW a.ok,_,Sq a.ok.n c,?_⟩;unfold fv;cases hr:eQ k q with
 |false=>exact Cq.wp.yes rfl (by show _=_;rw[ā ĳ])
 |true=>
  rw[ą rfl];refine Cq.wp.no ĳ ?_;have f:=ic.of a c hr;have g:jR (Æ q (Θ k).2).kind<=4:=Gw _;obtain⟨D,d,i⟩:=ZzS h ŉ;obtain⟨j,_,h2⟩:=Vn (n:=5) (B:=B) (D:=D) ŉ h f d ŉ;refine⟨_,AW a.ok,_,Qp c a.kc,Cq.wp.no (λe=>e rfl) (Cq.fi i ⟨B.t,⟨λe=>by rw[e];rfl,by rw[ļ];simp only[small];omega,rfl⟩,_,h2,Cq.wp.no (λe=>e rfl) rfl⟩)⟩
theorem ZzI{c:Zc}{q:Zb}(d:æ c){t:Ze}(f:æ t.k):oO c q t=decide (eS t=gL c q):=by
 unfold oO;by_cases e:eS t=gL c q
 .obtain⟨a,h2⟩:=(Ud f d).2 e;rw[Ă a,Ă h2,Ă e];rfl
 rw[ċ e];by_cases a:ü t.k=ü c
 .rw[Ă a,ċ (λh2=>e ((Ud f d).1 ⟨a,h2⟩))];rfl
 rw[ċ a];rfl
theorem UE{c:Zc}{q:Zb}(a:æ c):∀{l:Ŀ Ze},(∀t∈l,æ t.k)->eI l (gL c q)=(l.findIdx? (oO c q)).bind λi=>l[i]?
 |[],_=>rfl
 |t::l,h=>by
  have d:=UE (q:=q) a (l:=l) λu e=>h u (by simp[e]);rw[List.findIdx?_cons,ZzI a (h t ß)];unfold eI at d⊢;rw[abD];cases decide (eS t=gL c q)with
  |true=>rfl
  |false=>
   rw[d];cases l.findIdx? (oO c q)with
   |none=>rfl
   |some i=>simp
theorem å.tj{B:Zd}(h:å B):∀t∈B.t,lD t:=λt a=>⟨(h.can t a).ck.1.ok.pj,(h.can t a).cq.w⟩
theorem Vy{B:Zd}(h:å B)(k:B.t.length<=98){c:Zc}{q:Zb}(f:ic c q)(e:Int):(Qw ⟨c,q,e⟩ B).Γ ⟨(gv B c q).1,(gv B c q).2,0⟩:=by
 refine⟨_,ZAn ŉ h.tj f.ck.1.ok.pj f.cq.w,?_⟩;have a:=UE (q:=q) f.ck.1.ok (l:=B.t) λt j=>(h.nU j).1;unfold MO gv;cases hi:B.t.findIdx? (oO c q)with
 |none=>
  rw[hi]at a;have a:eI B.t (gL c q)=none:=a;rw[a];have g:=h.next;refine Cq.wp.no ĳ (Cq.wp.no ŉ (Cq.wp.no ŉ ⟨by rw[ļ];simp only[small];omega,by simp only[ļ,Ā,Ě,Ļ];simp only[small];omega,?_⟩));show _=_;rw[wrap64 ŉ,ļ];rfl
 |some i=>
  rw[hi]at a;obtain⟨d,_⟩:=List.findIdx?_eq_some_iff_getElem.1 hi;have a:eI B.t (gL c q)=some B.t[i]:=by rw[a];exact Ą d
  rw[a];exact Cq.wp.yes (show(0:Int)<=(i:Int) by omega) ⟨_,Ξ d,rfl⟩
theorem Td:∀{n:Nat}{B:Zd}{k c:Zc}{p q:Zb},jR q.kind<=n->å B->ic c q->(A3 k p).Γ ⟨c,q,0⟩->B.t.length+jR q.kind<=99->
  (A2 n B k p).Γ ⟨(fg n B c q).1,(fg n B c q).2,0⟩
 |0,_,_,_,_,q,r,_,_,_,_=>by
  rcases tz q.kind with ⟨_,h⟩|⟨x,_,h⟩<;>omega
 |n+1,B,k,c,p,q,r,g,i,hr,v=>by
  have e:fg (n+1) B c q=gv ((ó q.kind).foldl (λb x=>(fg n b c x).1) B) c q:=rfl;have m:=(FF q).2;rw[e];refine⟨_,hr,Cq.wp.no (λe=>e rfl) ⟨_,m,?_⟩⟩;show(Cq.next _ _).wp _;rcases tz q.kind with ⟨f,l⟩|⟨x,f,l⟩
  .rw[f];exact Cq.Zt (Cq.wp.no ĳ (Vy g ŉ i 0))
  have s:x∈ó q.kind:=by rw[f];exact Ē.2 rfl
  have a:=ic.ls i.ck s;rw[f];have d:=Rl a.ck.1 a.cq;rw[a.iv]at d;have t:=Td (n:=n) (B:=B) (k:=c) (c:=c) (p:=x) (q:=x) ŉ g a d ŉ;obtain⟨j,_⟩:=vw (n:=n) (B:=B) (c:=c) (q:=x) ŉ g a;have u:=j.len;exact Cq.Zt (Cq.wp.yes (show(0:Int)<((1:Nat):Int) by decide) ⟨x,⟨ĳ,rfl⟩,_,t,Cq.wp.no (λe=>e rfl) (Cq.Zt (Cq.wp.no (show ¬i64.wrap (0+1)<((1:Nat):Int) by decide) (Vy j.ok ŉ i 0)))⟩)
theorem ZxL{B:Zd}(h:å B)(i:B.t.length<=95){k:Zc}{q:Zb}(d:dR k)(e:eY q):(A2 5 B k q).Γ ⟨(fv B k q).1,(fv B k q).2.1,(fv B k q).2.2⟩:=by
 have a:=Rl d e;unfold fv;cases hr:eQ k q with
 |false=>
  have c:iv k q=⟨iK,⟨0,[],[]⟩,1⟩:=by unfold iv;rw[hr];rfl
  rw[c]at a;exact⟨_,a,Cq.wp.yes ĳ rfl⟩
 |true=>
  have c:iv k q=⟨(Θ k).1,Æ q (Θ k).2,0⟩:=by unfold iv;rw[if_pos hr]
  rw[c]at a;have f:=ic.of d e hr;have g:jR (Æ q (Θ k).2).kind<=4:=Gw _;rw[ą rfl];exact Td (n:=5) ŉ h f a ŉ
end Go.EL

namespace Go.EL
open Go.IntKind (i8 i16 i32 i64 u8 u16 u32 u64)
open Go Go.RowKit
structure pz (t:Ze):Prop where
 xk:dR t.k\/t.k=iK
 xq:eY t.q
theorem Zy6:¬dR iK:=λh=>absurd h.ok.n.1 ĳ
def pw(t:Ze):Prop:=((0<=t.ψ/\t.ψ<=13)/\0<=t.low/\-1<=t.high)/\dR t.k/\eQ t.k t.q=true/\ü (Θ t.k).1=ü t.k/\hU (Æ t.q (Θ t.k).2)=hU t.q
theorem ZsB:(vj iK).Γ false:=⟨false,Cq.wp.no ĳ rfl,rfl⟩
theorem Zxc{t:Ze}(h:pz t):(KA t).wp λb=>(b=true↔pw t):=by
 by_cases c:t.ψ<0
 .refine Cq.wp.yes c ⟨λe=>(nomatch e),λp=>?_⟩;have:=p.1.1.1;omega
 by_cases d:13<t.ψ
 .refine Cq.wp.no c (Cq.wp.yes d ⟨λe=>(nomatch e),λp=>?_⟩);have:=p.1.1.2;omega
 by_cases g:t.low<0
 .refine Cq.wp.no c (Cq.wp.no d (Cq.wp.yes g ⟨λe=>(nomatch e),λp=>?_⟩));have:=p.1.2.1;omega
 by_cases i:t.high < -1
 .refine Cq.wp.no c (Cq.wp.no d (Cq.wp.no g (Cq.wp.yes i ⟨λe=>(nomatch e),λp=>?_⟩)));have:=p.1.2.2;omega
 refine Cq.wp.no c (Cq.wp.no d (Cq.wp.no g (Cq.wp.no i ?_)));have j:(0<=t.ψ/\t.ψ<=13)/\0<=t.low/\-1<=t.high:=ŉ;rcases h.xk with a|a
 .refine⟨true,EW a.ok,_,Sq a.ok.n h.xq,?_⟩;cases hr:eQ t.k t.q with
  |false=>exact Cq.wp.yes rfl ⟨λe=>(nomatch e),λp=>by have:=p.2.2.1;rw[hr]at this;cases this⟩
  |true=>
   refine Cq.wp.no ĳ ⟨_,AW a.ok,_,zd a.canon.ok,_,zd a.ok,?_⟩;by_cases f:ü (Θ t.k).1=ü t.k
   .refine Cq.wp.no (λe=>e f) ⟨_,Qp h.xq a.kc,Cq.wp.yes rfl ⟨_,Mk (SH h.xq a.kc).w,_,Mk h.xq.w,?_⟩⟩;exact⟨λe=>⟨j,a,hr,f,ĥ e⟩,λp=>Ă p.2.2.2.2⟩
   exact Cq.wp.yes f ⟨λe=>(nomatch e),λp=>absurd p.2.2.2.1 f⟩
 rw[show JI t=Cq.bind (vj t.k) _ from rfl,a];exact⟨false,ZsB,⟨λe=>(nomatch e),λp=>absurd (a ▸ p.2.1) Zy6⟩⟩
structure Ah (B:Zd) (i:Nat) (t:Ze):Prop where
 WO:1<=t.id
 idn:t.id<B.next
 inc:∀j (h:j<B.t.length),j+1=i->B.t[j].id<t.id
 prop:pw t
 Ú:∀j (h:j<B.t.length),j<i->eS B.t[j]≠eS t
 ls:∀x∈ó t.q.kind,∃j,∃(h:j<B.t.length),j<i/\eS B.t[j]=gL t.k x
def vc(B:Zd):Prop:=∀i (h:i<B.t.length),Ah B i B.t[i]
def rO(B:Zd):Prop:=(B.t.length<=100/\1<=B.next/\B.next<=1000000)/\vc B
def Aj(A:Prop):Bool⊕Unit->Prop
 |.inl b=>b=false/\¬A
 |.inr ()=>A
structure nO (D:Ŀ (Ĳ×Bool)) (B:Zd) (i:Nat):Prop where
 get:∀s,(fh D s).getD false=true↔∃j,∃(h:j<B.t.length),j<i/\eS B.t[j]=s
 len:D.length<=i
theorem nO.step{D:Ŀ (Ĳ×Bool)}{B:Zd}{i:Nat}(h:nO D B i)(hi:i<B.t.length):nO (eV D (eS B.t[i]) true) B (i+1) where
 get s:=by
  rw[yY];by_cases e:eS B.t[i]=s
  .rw[ą e];exact⟨λ_=>⟨i,hi,Ű _,e⟩,λ_=>rfl⟩
  rw[ā e,h.get];constructor
  .rintro⟨j,a,h2,h3⟩;exact⟨j,a,ŉ,h3⟩
  rintro⟨j,a,h2,h3⟩;by_cases c:j=i
  .subst c;exact absurd h3 e
  exact⟨j,a,ŉ,h3⟩
 len:=by have:=Bd D (eS B.t[i]) true;have:=h.len;omega
theorem ZzV{B:Zd}{i:Nat}{D:Ŀ (Ĳ×Bool)}(e:nO D B i){t:Ze}(f:dR t.k):
  (J3 D t (ó t.q.kind) 0).wp (Aj (∀x∈ó t.q.kind,∃j,∃(h:j<B.t.length),j<i/\eS B.t[j]=gL t.k x)):=by
 rcases tz t.q.kind with ⟨a,_⟩|⟨x,a,_⟩
 .rw[a]
  exact Cq.Zt (Cq.wp.no ĳ (λx d=>(nomatch d)))
 have d:x∈ó t.q.kind:=by rw[a];exact Ē.2 rfl
 have g:=(LR d).w
 rw[a]
 refine Cq.Zt (Cq.wp.yes (show(0:Int)<((1:Nat):Int) by decide) ⟨x,⟨ĳ,rfl⟩,_,za f.ok g,y6 f.ok g,?_⟩)
 by_cases c:(fh D (gL t.k x)).getD false=true
 .refine Cq.wp.no (by rw[c];decide) (Cq.Zt (Cq.wp.no (show ¬i64.wrap (0+1)<((1:Nat):Int) by decide) (λy l=>?_)))
  rw[Ē.1 l]
  exact(e.get _).1 c
 refine Cq.wp.yes (by rw[ź.2 c];rfl) ⟨rfl,λk=>c ((e.get _).2 (k x (Ē.2 rfl)))⟩
theorem Rq{B:Zd}(J:∀t∈B.t,pz t)(O:B.t.length<=100):∀(m i:Nat),m+i=B.t.length->∀(last:Int) (D:Ŀ (Ĳ×Bool)),nO D B i->(i=0->last=0)->(∀j (h:j<B.t.length),j+1=i->B.t[j].id=last)->(∀j (h:j<B.t.length),j<i->Ah B j B.t[j])->
  (J2 B (last,(i:Int),D)).wp (Aj (vc B))
 |0,i,P,last,D,p,v,hp,d=>Cq.Zt (Cq.wp.no ŉ (λj n=>d j n ŉ))
 |m+1,i,P,last,D,p,v,hp,d=>by
  have hi:i<B.t.length:=ŉ;have F:=J _ (ă hi);have C:0<=last:=by
   by_cases e:i=0
   .rw[v e];exact ŝ _
   have:=(d (i-1) ŉ ŉ).WO;rw[hp (i-1) ŉ ŉ]at this;omega
  have g:(∀j (h:j<B.t.length),j+1=i->B.t[j].id<B.t[i].id)↔i=0\/last<B.t[i].id:=by
   constructor
   .intro h;by_cases e:i=0
    .exact .inl e
    refine .inr ?_;have:=h (i-1) ŉ ŉ;rwa [hp (i-1) ŉ ŉ]at this
   intro h j n e;rw[hp j n e];rcases h with h|h
   .omega
   exact h
  refine Cq.Zt (Cq.wp.yes ŉ ⟨_,Ξ hi,?_⟩);by_cases s:B.t[i].id<=last
  .refine Cq.wp.yes s ⟨rfl,λc=>?_⟩;have:=(c i hi).WO;rcases g.1 (c i hi).inc with e|e
   .rw[v e]at s;omega
   omega
  refine Cq.wp.no s ?_;by_cases G:B.next<=B.t[i].id
  .refine Cq.wp.yes G ⟨rfl,λc=>?_⟩;have:=(c i hi).idn;omega
  refine Cq.wp.no G ?_;rcases Vj (Zxc F)with ⟨f,l⟩|⟨f,l⟩
  .refine⟨_,l,?_⟩;have A:=f.2.1;have k:=za A.ok F.xq.w;have q:=y6 A.ok F.xq.w;refine⟨_,k,q,?_⟩;by_cases r:(fh D (eS B.t[i])).getD false=true
   .refine Cq.wp.yes r ⟨rfl,λc=>?_⟩;obtain⟨j,L,h2,h3⟩:=(p.get _).1 r;exact(c i hi).Ú j L h2 h3
   refine Cq.wp.no r ⟨_,(FF _).1,?_⟩;refine Cq.mono (J3 D B.t[i] (ó B.t[i].q.kind) 0) (λo H=>?_) (ZzV p A);cases o with
   |inl b=>
    obtain⟨rfl,E⟩:=H;exact⟨rfl,λc=>E (c i hi).ls⟩
   |inr u=>
    cases u;have E:∀x∈ó B.t[i].q.kind,∃j,∃(h:j<B.t.length),j<i/\eS B.t[j]=gL B.t[i].k x:=H;have I:=p.step hi;have Q:=I.len;refine⟨_,k,⟨q,by show(eV D (eS B.t[i]) true).length<=small;simp only[small];omega⟩,?_⟩;show(Cq.loop _ _).wp _;rw[χ ŉ];refine Rq J O m (i+1) ŉ _ _ I (λe=>ŉ) (λj n e=>by obtain rfl:j=i:=ŉ;rfl) (λj n e=>?_);by_cases K:j=i
    .subst K;exact⟨ŉ,ŉ,g.2 (.inr ŉ),f,λa N y e=>r ((p.get _).2 ⟨a,N,y,e⟩),E⟩
    exact d j n ŉ
  exact⟨_,l,rfl,λc=>f (c i hi).prop⟩
theorem Zv5{B:Zd}(i:∀t∈B.t,pz t):(E5 B).wp λb=>(b=true↔rO B):=by
 by_cases a:B.next<1
 .refine Cq.wp.yes a ⟨λe=>(nomatch e),λp=>?_⟩;have:=p.1.2.1;omega
 by_cases c:1000000<B.next
 .refine Cq.wp.no a (Cq.wp.yes c ⟨λe=>(nomatch e),λp=>?_⟩);have:=p.1.2.2;omega
 by_cases d:100<(B.t.length:Int)
 .refine Cq.wp.no a (Cq.wp.no c (Cq.wp.yes d ⟨λe=>(nomatch e),λp=>?_⟩));have:=p.1.1;omega
 refine Cq.wp.no a (Cq.wp.no c (Cq.wp.no d ?_));show(Cq.next _ _).wp _;refine Cq.mono (J2 B (0,0,[])) (λo f=>?_) (Rq i ŉ B.t.length 0 rfl 0 [] ⟨λs=>⟨λe=>(nomatch e),λ⟨j,_,h,_⟩=>absurd h (ı _)⟩,ĉ _⟩ (λ_=>rfl) (λj _ e=>ŉ) (λj _ e=>ŉ));cases o with
 |inl b=>
  obtain⟨rfl,g⟩:=f;exact⟨λe=>(nomatch e),λp=>absurd p.2 g⟩
 |inr u=>
  cases u;exact⟨λ_=>⟨ŉ,f⟩,λ_=>rfl⟩
theorem å.DI{B:Zd}(h:å B):∀t∈B.t,pz t:=λt a=>⟨.inl (h.can t a).ck.1,(h.can t a).cq⟩
theorem å.valid{B:Zd}(h:å B)(l:B.t.length<=100):rO B:=by have m:=h.next;refine⟨ŉ,λi hi=>?_⟩;have f:=ă hi;have a:=h.can _ f;have g:=h.ids i hi;refine⟨ŉ,ŉ,λj c e=>by have:=h.ids j c;omega,⟨h.num _ f,a.ck.1,a.right,by rw[a.ck.2],by rw[a.ck.2,a.self]⟩,λj c d=>Ģ.1 h.Ú j i c hi d,λx k=>h.ls i hi x k⟩
end Go.EL

namespace Go.EL
open Go.IntKind (i8 i16 i32 i64 u8 u16 u32 u64)
open Go Go.RowKit
def qA:Ze:=⟨0,⟨0,[],[]⟩,⟨0,[],[]⟩,0,0,0,false⟩
def dE(l:Ŀ Ze)(id:Int):Ze×Bool:=match l.find? λt=>decide (t.id=id)with
 |some t=>(t,true)
 |none=>(qA,false)
theorem A8{B:Zd}(j:B.t.length<=1000)(id:Int):(xy B id).Γ (dE B.t id)/\(LC B id).Γ (dE B.t id):=by
 have key:∀(m i:Nat),m+i=B.t.length->∀z,((Kg B id ((i:Int),z)).wp λo=>o=(match(B.t.drop i).find? (λt=>decide (t.id=id))with|some t=>.inl (t,true)|none=>.inr z))/\((Kc B id ((i:Int),z)).wp λo=>o=(match(B.t.drop i).find? (λt=>decide (t.id=id))with|some t=>.inl (t,true)|none=>.inr z)):=by
  intro m;induction m with
  |zero=>
   intro i hi z;rw[Ķ ŉ];exact⟨Cq.Zt (Cq.wp.no ŉ rfl),Cq.Zt (Cq.wp.no ŉ rfl)⟩
  |succ m h=>
   intro i hi z;have a:i<B.t.length:=ŉ;obtain⟨d,f⟩:=h (i+1) ŉ z;rw[ĭ a,abD];by_cases e:B.t[i].id=id
   .rw[Ă e];exact⟨Cq.Zt (Cq.wp.yes ŉ ⟨_,Ξ a,Cq.wp.yes e rfl⟩),Cq.Zt (Cq.wp.yes ŉ ⟨_,Ξ a,Cq.wp.yes e ⟨_,Ξ a,rfl⟩⟩)⟩
   rw[ċ e];refine⟨Cq.Zt (Cq.wp.yes ŉ ⟨_,Ξ a,Cq.wp.no e ?_⟩),Cq.Zt (Cq.wp.yes ŉ ⟨_,Ξ a,Cq.wp.no e ?_⟩)⟩
   .show (Cq.loop _ _).wp _;rw[χ ŉ];exact d
   show(Cq.loop _ _).wp _;rw[χ ŉ];exact f
 obtain⟨g,k2⟩:=key B.t.length 0 ŉ qA;rw[aa9]at g k2;unfold dE;constructor
 .show (Cq.next _ _).wp _;refine Cq.mono (Kg B id (0,qA)) (λo c=>?_) g;rw[c];cases B.t.find? λt=>decide (t.id=id)<;>rfl
 show(Cq.next _ _).wp _;refine Cq.mono (Kc B id (0,qA)) (λo c=>?_) k2;rw[c];cases B.t.find? λt=>decide (t.id=id)<;>rfl
structure nN (s t:Ze):Prop where
 id:s.id=t.id
 ψ:s.ψ=t.ψ
 low:s.low=t.low
 high:s.high=t.high
 done:s.done=t.done
 k:ü s.k=ü t.k
 q:hU s.q=hU t.q
theorem nN.refl(t:Ze):nN t t:=⟨rfl,rfl,rfl,rfl,rfl,rfl,rfl⟩
theorem Zv3{s t:Ze}(a:lD s)(c:lD t)(h:nN s t):(JN s t).Γ true:=by refine Cq.wp.yes h.id (Cq.wp.yes h.ψ (Cq.wp.yes h.low (Cq.wp.yes h.high (Cq.wp.yes h.done ⟨_,Fq a.k c.k,?_⟩))));rw[Ă h.k];exact⟨_,Tb a.q c.q,Ă h.q⟩
theorem Zpx{B C:Zd}(f:∀t∈B.t,lD t)(g:∀t∈C.t,lD t)(l:B.next=C.next)(n:B.t.length=C.t.length)(j:B.t.length<=1000)(h:∀i (m:i<B.t.length) (h2:i<C.t.length),nN B.t[i] C.t[i]):(Bf B C).Γ true:=by
 refine Cq.wp.no (λe=>e l) (Cq.wp.no (λe=>e ŉ) ?_);show(Cq.next _ _).wp _;refine Cq.Zo B.t.length (λk s=>s=(k:Int)) (λk s d c=>?_) (λs c=>?_) rfl
 .subst c;have a:k<C.t.length:=ŉ;refine Cq.wp.yes ŉ ⟨_,Ξ d,_,Ξ a,_,Zv3 (f _ (ă _)) (g _ (ă _)) (h k d a),Cq.wp.no ĳ ?_⟩;show _=_;rw[χ ŉ]
 subst c;exact Cq.wp.no ŉ rfl
theorem QB{B:Zd}(c:∀t∈B.t,lD t)(a:B.t.length<=1000):(Bf B B).Γ true:=Zpx c c rfl rfl a λi _ _=>nN.refl _
def iH(B:Zd)(t:Ze):Bool:=!t.done&&decide (t.ψ<=12)&&(ó t.q.kind).all λx=>match eI B.t (gL t.k x)with
 |some u=>u.done
 |none=>false
def iX(B:Zd)(n:Nat):Ŀ Ze:=B.t.filter λt=>decide (t.ψ=(n:Int))&&iH B t
def iy(B:Zd):Ŀ Ze:=(List.range 13).flatMap (iX B)
def yh(B:Zd):Ŀ Int:=(iy B).map (·.id)
theorem Ztt{α:Type}(p:α->Bool){l:Ŀ α}{i:Nat}(hi:i<l.length):(l.take (i+1)).filter p=(l.take i).filter p++if p l[i]=true then[l[i]]else[]:=by rw[č hi,aa7];congr 1;rw[Ŏ];split<;>rfl
theorem ZvB(B:Zd)(n:Nat):(iX B n).length<=B.t.length:=ec _ _
theorem Qq(B:Zd):∀n:Nat,((List.range n).flatMap (iX B)).length<=n*B.t.length
 |0=>Ĝ _
 |n+1=>by rw[aak,du,Ā,List.flatMap_singleton,ŋ];have:=Qq B n;have:=ZvB B n;omega
def yb(s t:Ze):Prop:=s.ψ<t.ψ\/(s.ψ=t.ψ/\s.id<t.id)
theorem UI{s t:Ze}:ll s t<0↔yb s t:=by
 unfold ll yb;by_cases a:s.ψ<t.ψ
 .rw[ą a];omega
 rw[ā a];by_cases b:t.ψ<s.ψ
 .rw[ą b];omega
 rw[ā b];by_cases c:s.id<t.id
 .rw[ą c];omega
 rw[ā c];split<;>omega
theorem å.inc{B:Zd}(h:å B):B.t.Pairwise λs t=>s.id<t.id:=by rw[Ģ];intro i j hi c a;have:=h.ids i hi;have:=h.ids j c;omega
theorem T8{B:Zd}(h:å B):∀n:Nat,((List.range n).flatMap (iX B)).Pairwise yb/\∀t∈(List.range n).flatMap (iX B),t.ψ<(n:Int)
 |0=>⟨List.Pairwise.nil,λt a=>by cases a⟩
 |n+1=>by
  obtain⟨f,h2⟩:=T8 h n;have c:∀t∈iX B n,t.ψ=(n:Int):=λt a=>by have:=(Ō.1 a).2;rw[Ĉ]at this;exact ĥ this.1
  rw[aak,du,List.flatMap_singleton,ew];refine⟨⟨f,?_,λs d t a=>.inl (by have:=h2 s d;have:=c t a;omega)⟩,λt a=>?_⟩
  .have hp:(iX B n).Pairwise λs t=>s.id<t.id:=h.inc.sublist List.filter_sublist;refine hp.imp_of_mem λ{s t} d a e=>.inr ⟨by have:=c s d;have:=c t a;omega,e⟩
  rcases Ĩ.1 a with a|a
  .have:=h2 t a;omega
  have:=c t a;omega
theorem Zvn{t:Ze}(h:yb t t):False:=by unfold yb at h;omega
theorem ZtA{B:Zd}{t:Ze}(h:iH B t=true):t.done=false/\t.ψ<=12:=by unfold iH at h;rw[Ĉ,Ĉ]at h;exact⟨by simpa using h.1.1,ĥ h.1.2⟩
theorem Sp{B:Zd}(h:å B){t:Ze}:t∈iy B↔t∈B.t/\iH B t=true:=by
 unfold iy iX;simp only[List.mem_flatMap,ĺ,Ō,Ĉ,Ę];constructor
 .rintro⟨n,_,a,_,h2⟩;exact⟨a,h2⟩
 rintro⟨a,h2⟩;have c:=(h.num t a).1;have:=(ZtA h2).2;exact⟨t.ψ.toNat,ŉ,a,ŉ,h2⟩
theorem ZvC{B:Zd}(h:å B){ys:Ŀ Ze}(hp:ys.Perm (B.t.filter (iH B)))(u:ys.Pairwise λx y=>¬ll y x<0):ys=iy B:=by
 have hr:=(T8 h 13).1;have f:(iy B).Nodup:=hr.imp λ{s t} e c=>by subst c;exact Zvn e
 have d:(B.t.filter (iH B)).Nodup:=(h.inc.sublist List.filter_sublist).imp λ{s t} e c=>by subst c;exact Int.lt_irrefl _ e
 refine abl (le:=λx y=>¬ll y x<0) (λa b n p l h2=>?_) u (hr.imp λ{s t} e c=>?_) (hp.trans ((aa5 d f).2 λt=>?_))
 .rw[UI]at l h2;have v:=(Ō.1 (hp.mem_iff.1 n)).1;have mb:=((Sp h).1 p).1;obtain⟨i,hi,g⟩:=ķ.1 v;obtain⟨j,r,k⟩:=ķ.1 mb;have h3:=h.ids i hi;have m:=h.ids j r;have q:a.id=b.id:=by unfold yb at l h2;omega
  rw[g]at h3;rw[k]at m;have:i=j:=ŉ;subst this;rw[<-g,<-k]
 .rw[UI]at c;unfold yb at e c;omega
 rw[Sp h,Ō]
end Go.EL

namespace Go.EL
open Go.IntKind (i8 i16 i32 i64 u8 u16 u32 u64)
open Go Go.RowKit
structure pn (D:Ŀ (Ĳ×Bool)) (B:Zd) (i:Nat):Prop where
 get:∀s,(fh D s).getD false=true↔∃j,∃(h:j<B.t.length),j<i/\eS B.t[j]=s/\B.t[j].done=true
 len:D.length<=i
theorem Zx0{B:Zd}(h:å B)(u:B.t.length<=1000):∃D,pn D B B.t.length/\(Eg B (0,[])).Γ D:=by
 have key:∀k,k<=B.t.length->∃D,pn D B k/\∀E,(Eg B ((k:Int),D)).Γ E->(Eg B (0,[])).Γ E:=by
  intro k;induction k with
  |zero=>intro _;exact⟨[],⟨λs=>⟨λe=>(nomatch e),λ⟨j,_,h,_⟩=>absurd h (ı _)⟩,ĉ _⟩,λE i=>i⟩
  |succ k r=>
   intro t;obtain⟨D,g,h2⟩:=r ŉ;have f:k<B.t.length:=ŉ;obtain⟨n,p⟩:=h.nU (ă f);have q:=g.len;cases l:B.t[k].done with
   |true=>
    have v:=Bd D (eS B.t[k]) true;refine⟨eV D (eS B.t[k]) true,⟨λs=>?_,ŉ⟩,λE i=>h2 E (Cq.Zt (Cq.wp.yes ŉ ⟨_,Ξ f,Cq.wp.yes l ⟨_,za n p,⟨y6 n p,by show(eV D (eS B.t[k]) true).length<=small;simp only[small];omega⟩,?_⟩⟩))⟩
    .rw[yY];by_cases e:eS B.t[k]=s
     .rw[ą e];exact⟨λ_=>⟨k,f,Ű _,e,l⟩,λ_=>rfl⟩
     rw[ā e,g.get];constructor
     .rintro⟨j,a,b,c⟩;exact⟨j,a,ŉ,c⟩
     rintro⟨j,a,b,c,d⟩;by_cases m:j=k
     .subst m;exact absurd c e
     exact⟨j,a,ŉ,c,d⟩
    show(Cq.loop _ _).wp _;rw[χ ŉ];exact i
   |false=>
    refine⟨D,⟨λs=>?_,ŉ⟩,λE i=>h2 E (Cq.Zt (Cq.wp.yes ŉ ⟨_,Ξ f,Cq.wp.no (by rw[l];decide) ?_⟩))⟩
    .rw[g.get];constructor
     .rintro⟨j,a,b,c⟩;exact⟨j,a,ŉ,c⟩
     rintro⟨j,a,b,c,d⟩;by_cases m:j=k
     .subst m;rw[l]at d;cases d
     exact⟨j,a,ŉ,c,d⟩
    show(Cq.loop _ _).wp _;rw[χ ŉ];exact i
 obtain⟨D,g,h2⟩:=key B.t.length (ĉ _);exact⟨D,g,h2 D (Cq.Zt (Cq.wp.no ŉ rfl))⟩
theorem Zwg{B:Zd}(h:å B){D:Ŀ (Ĳ×Bool)}(l:pn D B B.t.length)(s:Ĳ):(fh D s).getD false=(match eI B.t s with|some u=>u.done|none=>false):=by
 rw[abE,l.get];cases g:eI B.t s with
 |none=>
  constructor
  .rintro⟨j,a,_,c,_⟩;exact absurd c (KL g _ (ă a))
  intro e;cases e
 |some u=>
  obtain⟨n,f⟩:=E1 g;obtain⟨i,hi,e⟩:=ķ.1 n;dsimp only;constructor
  .rintro⟨j,a,_,c,d⟩;have:i=j:=by
    by_cases k:i<j
    .exact absurd (by rw[e,f,c]) (Ģ.1 h.Ú i j hi a k)
    by_cases h2:j<i
    .exact absurd (by rw[e,f,c]) (Ģ.1 h.Ú j i a hi h2)
    omega
   subst this;rw[<-e];exact d
  intro m;exact⟨i,hi,hi,by rw[e];exact f,by rw[e];exact m⟩
theorem Zrm{B:Zd}(h:å B){D:Ŀ (Ĳ×Bool)}(f:pn D B B.t.length){t:Ze}(d:dR t.k):
  (ZG (ó t.q.kind) D t).Γ (!(ó t.q.kind).all λx=>match eI B.t (gL t.k x)with|some u=>u.done|none=>false):=by
 rcases tz t.q.kind with ⟨a,_⟩|⟨x,a,_⟩
 .rw[a]
  exact⟨-1,Cq.Zt (Cq.wp.no ĳ rfl),rfl⟩
 have i:x∈ó t.q.kind:=by rw[a];exact Ē.2 rfl
 have e:=(LR i).w
 have g:=Zwg h f (gL t.k x)
 have c:(J0 x D t).Γ (!((fh D (gL t.k x)).getD false)):=⟨_,za d.ok e,y6 d.ok e,rfl⟩
 rw[g]at c
 rw[a]
 simp only[abk,List.all_nil,abO]
 generalize (match eI B.t (gL t.k x)with|some u=>u.done|none=>false:Bool)=b at c
 cases b with
 |true=>exact⟨-1,Cq.Zt (Cq.wp.yes (show(0:Int)<((1:Nat):Int) by decide) ⟨x,⟨ĳ,rfl⟩,_,c,Cq.wp.no ĳ (Cq.Zt (Cq.wp.no (show ¬i64.wrap (0+1)<((1:Nat):Int) by decide) rfl))⟩),rfl⟩
 |false=>exact⟨0,Cq.Zt (Cq.wp.yes (show(0:Int)<((1:Nat):Int) by decide) ⟨x,⟨ĳ,rfl⟩,_,c,Cq.wp.yes rfl rfl⟩),rfl⟩
theorem Zu4{B:Zd}(h:å B)(q:B.t.length<=100):(KD B).Γ (yh B):=by
 obtain⟨D,p,r⟩:=Zx0 h ŉ;refine Cq.fi r ?_;show(Cq.next _ _).wp _;refine Cq.Zo B.t.length (λi s=>s=((B.t.take i).filter (iH B),(i:Int))) (λi s hi d=>?_) (λs d=>?_) rfl
 .subst d;have a:=Ztt (iH B) hi;have f:((B.t.take i).filter (iH B)).length<=100:=ň (ec _ _) (by rw[Č];omega);have l:=(h.can _ (ă hi)).ck.1;have c:iH B B.t[i]=(!B.t[i].done&&decide (B.t[i].ψ<=12)&&(ó B.t[i].q.kind).all λx=>match eI B.t (gL B.t[i].k x)with|some u=>u.done|none=>false):=rfl;refine Cq.wp.yes ŉ ⟨_,Ξ hi,?_⟩;cases j:B.t[i].done with
  |true=>
   have A:iH B B.t[i]=false:=by rw[c,j];rfl
   rw[A,ā ĳ,ę]at a;refine Cq.wp.yes j ?_;show _=_;rw[χ ŉ,a]
  |false=>
   refine Cq.wp.no (by rw[j];decide) ?_;by_cases g:B.t[i].ψ<=12
   .rw[c,j,Ă g]at a;refine Cq.wp.yes g ⟨_,(FF _).1,_,Zrm h p l,?_⟩;generalize ((ó B.t[i].q.kind).all λx=>match eI B.t (gL B.t[i].k x)with|some u=>u.done|none=>false)=b at a;cases b with
    |true=>
     rw[ą ĳ]at a;refine Cq.wp.yes rfl ⟨by simp only[Ā,Ě,Ļ];simp only[small];omega,?_⟩;show _=_;rw[χ ŉ,a]
    |false=>
     rw[ā ĳ,ę]at a;refine Cq.wp.no ĳ ?_;show _=_;rw[χ ŉ,a]
   rw[c,ċ g,Bool.and_false,Ŷ,ā ĳ,ę]at a;refine Cq.wp.no g ?_;show _=_;rw[χ ŉ,a]
 subst d;refine Cq.wp.no ŉ ?_;rw[Ħ];have f:(B.t.filter (iH B)).length<=100:=ň (ec _ _) q;obtain⟨v,y,C,E⟩:=TQ f;have e:(ZR (B.t.filter (iH B))).Γ (iy B):=⟨_,y,iy B,⟨⟨rfl,rfl,⟨C,E⟩,ŉ⟩,λys n=>ZvC h n.1 n.2⟩,rfl⟩;refine⟨_,e,?_⟩;have t:=Qq B 13;show(Cq.next _ _).wp _;refine Cq.Zo (iy B).length (λk s=>s=(((iy B).take k).map (·.id),(k:Int))) (λk s l d=>?_) (λs d=>?_) rfl
 .subst d;have m:(iy B).length<=1300:=by
   show((List.range 13).flatMap (iX B)).length<=1300;omega
  refine Cq.wp.yes ŉ ⟨_,Ξ l,by simp only[Ā,ć,Č,Ě,Ļ];simp only[small];omega,?_⟩;show _=_;rw[χ ŉ,č l,Ī];rfl
 subst d;refine Cq.wp.no ŉ ?_;rw[Ħ];rfl
end Go.EL

namespace Go.EL
open Go.IntKind (i8 i16 i32 i64 u8 u16 u32 u64)
open Go Go.RowKit
theorem Bq(N:Nat)(p:N<=1000)(f:Nat->Bool){step:Int->Cq (Int⊕(Bool⊕Unit))}(h:∀k,k<N->(step (k:Int)).wp λo=>o=if f k=true then .inl (i64.wrap ((k:Int)+1))else .inr (.inl false))
  (a:(step (N:Int)).wp λo=>o=.inr (.inr ())):(Cq.loop step 0).wp λo=>o=if(List.range N).all f=true then .inr ()else .inl false:=by
 refine Cq.Zo N (λk s=>s=(k:Int)/\∀i,i<k->f i=true) (λk s l j=>?_) (λs j=>?_) ⟨rfl,λi hi=>absurd hi (ı _)⟩
 .obtain⟨rfl,d⟩:=j
  refine(step _).mono (λo g=>?_) (h k l)
  subst g
  by_cases c:f k=true
  .rw[ą c]
   refine⟨χ ŉ,λi m=>?_⟩
   by_cases e:i=k
   .subst e;exact c
   exact d i ŉ
  rw[ā c]
  show _=_
  rw[ā λe=>c (Ć.1 e _ (ĺ.2 l))]
 obtain⟨rfl,d⟩:=j
 refine(step _).mono (λo g=>?_) a
 subst g
 show _=_
 rw[ą (Ć.2 λx n=>d x (ĺ.1 n))]
theorem y5{α:Type}(l:Ŀ α)(g:l.length<=1000)(f:α->Bool){step:Int->Cq (Int⊕(Bool⊕Unit))}(h:∀k (d:k<l.length),(step (k:Int)).wp λo=>o=if f l[k]=true then .inl (i64.wrap ((k:Int)+1))else .inr (.inl false))
  (a:(step (l.length:Int)).wp λo=>o=.inr (.inr ())):(Cq.loop step 0).wp λo=>o=if l.all f=true then .inr ()else .inl false:=by
 have key:=Bq l.length g (λk=>(l[k]?.map f).getD true) (step:=step) (λk d=>by have:=h k d;rw[Ą d];exact this) a
 have e:((List.range l.length).all λk=>(l[k]?.map f).getD true)=l.all f:=by
  rw[abE,Ć,Ć];constructor
  .intro c x j;obtain⟨i,hi,rfl⟩:=Ŕ j;have:=c i (ĺ.2 hi);rw[Ą hi]at this;exact this
  intro c i hi;have hi:=ĺ.1 hi;rw[Ą hi];exact c _ (ă hi)
 rw[e]at key
 exact key
def fR(p:Ù)(n d:Int):Bool:=decide ((ð p).toNat<2 ^ n.toNat)&&decide (gk p<=d)
theorem ZyM{p:Ù}{n:Nat}(e:n<=4):(Int.fdiv (i64.wrap (ð p)) (2 ^ (min (n:Int).toNat i64.bits))=0)↔(ð p).toNat<2 ^ n:=by
 have f:=ui p;rw[wrap64 ŉ];obtain⟨u,c⟩:∃u:Nat,ð p=(u:Int):=⟨(ð p).toNat,ŉ⟩;have d:Int.fdiv (ð p) (2 ^ (min (n:Int).toNat i64.bits))=((u / 2 ^ n:Nat):Int):=by rw[c,Ĕ,Ž (show n<=i64.bits from ň e ĳ),aae _ (Int.le_of_lt (Int.pow_pos ĳ))];push_cast;rfl
 rw[d,c,Ĕ];have hp:=aab n;constructor
 .intro a;have a:u / 2 ^ n=0:=ŉ;rcases lv.1 a with h|h
  .omega
  exact h
 intro a;rw[aaI a];rfl
theorem Kv{k:Zc}(f:1<=k.n/\k.n<=4){p:Ù}(h:Β p)(d:Int):(ê ⟨k⟩ p d).Γ (fR p k.n d):=by
 refine⟨true,D4 h,_,FO h.len,by show 0<=k.n;omega,?_⟩;obtain⟨n,c⟩:∃n:Nat,k.n=(n:Int):=⟨k.n.toNat,ŉ⟩;have hi:=ZyM (p:=p) (n:=n) ŉ;unfold fR;show Cq.wp (if(Int.fdiv (i64.wrap (ð p)) (2 ^ (min (k.n).toNat i64.bits)))=0 then _ else _) _;rw[c,Ĕ];by_cases a:(ð p).toNat<2 ^ n
 .rw[Ă a,ť];exact Cq.wp.yes (hi.2 a) ⟨_,yC h,rfl⟩
 rw[ċ a,Ŷ];exact Cq.wp.no (λe=>a (hi.1 e)) rfl
theorem Ey{n:Int}(f:1<=n/\n<=4){p:Ù}(h:Β p)(d:Int):(xg p n d).Γ (fR p n d):=by
 obtain⟨n,rfl⟩:∃m:Nat,n=(m:Int):=⟨n.toNat,ŉ⟩;have nj:1<=n/\n<=4:=ŉ;have g:=ui p;have c:u64.wrap (n:Int)=(n:Int):=qG ⟨ŉ,ŉ⟩;have a:i64.wrap (1*2 ^ (min (n:Int).toNat i64.bits))=((2 ^ n:Nat):Int):=by
  match n,nj with
  |1,_=>rfl
  |2,_=>rfl
  |3,_=>rfl
  |4,_=>rfl
 refine⟨true,Ao h,_,An h.len,by rw[c];omega,?_⟩;rw[c,a,wrap64 ŉ];unfold fR;rw[Ĕ];by_cases e:(ð p).toNat<2 ^ n
 .rw[Ă e,ť];exact Cq.wp.yes ŉ ⟨_,w9 h,rfl⟩
 rw[ċ e,Ŷ];exact Cq.wp.no ŉ rfl
theorem xE{c:Cq (Bool⊕Unit)}{b:Bool}{k:Bool⊕Unit->Cq Bool}(h:c.wp λo=>o=if b=true then .inr ()else .inl false)(d:k (.inl false)=Cq.ret false)(h2:k (.inr ())=Cq.ret true):(c.next k).wp λa=>a=b:=by
 refine c.mono (λo e=>?_) h;subst e;cases b with
 |false=>rw[ā ĳ,d];rfl
 |true=>rw[ą rfl,h2];rfl
theorem T3{k:Zc}(a:1<=k.n/\k.n<=4){l:Ŀ Ù}(c:l.length<=3)(h:∀p∈l,Β p):(Ä ⟨k⟩ l).Γ (l.all λp=>fR p k.n 64):=by
 refine Cq.wp.yes ŉ ⟨_,⟨_,xE (y5 l ŉ (λp=>fR p k.n 64) (λi hi=>?_) ?_) rfl rfl,rfl⟩,rfl⟩
 .refine Cq.wp.yes ŉ ⟨_,Ξ hi,_,⟨_,Kv a (h _ (ă hi)) 64,rfl⟩,?_⟩;cases fR l[i] k.n 64 with
  |false=>exact Cq.wp.yes rfl rfl
  |true=>exact Cq.wp.no ĳ rfl
 exact Cq.wp.no ŉ rfl
theorem Ta{n:Int}(a:1<=n/\n<=4){l:Ŀ Ù}(c:l.length<=3)(h:∀p∈l,Β p):(FW l n).Γ (l.all λp=>fR p n 64):=by
 refine xE (y5 l ŉ (λp=>fR p n 64) (λi hi=>?_) ?_) rfl rfl
 .refine Cq.wp.yes ŉ ⟨_,Ξ hi,_,Ey a (h _ (ă hi)) 64,?_⟩;cases fR l[i] n 64 with
  |false=>exact Cq.wp.yes rfl rfl
  |true=>exact Cq.wp.no ĳ rfl
 exact Cq.wp.no ŉ rfl
def ly(s:Ŀ Int):Prop:=s.length<=3/\∀x∈s,-1<=x/\x<=1
theorem Zxl{s:Ŀ Int}(h:ly s):(I7 s).Γ true:=by
 have key:=y5 s (by have:=h.1;omega) (λ_=>true) (step:=λa=>if a<(s.length:Int)then(Cq.Λ s a λf=>Cq.bind (JQ f) λc=>if(!c)=true then(Cq.ret (.inr (.inl false)))else(Cq.ret (.inl (i64.wrap (a+1)))))else(Cq.ret (.inr (.inr ())))) (λi hi=>?_) ?_
 .have e:(s.all λ_=>true)=true:=Ć.2 λ_ _=>rfl;rw[e]at key;exact Cq.fi key rfl
 .have d:=h.2 _ (ă hi);refine Cq.wp.yes ŉ ⟨_,Ξ hi,true,Cq.wp.yes d.1 ?_,Cq.wp.no ĳ rfl⟩;exact Ă d.2
 exact Cq.wp.no ŉ rfl
theorem Zu3{s:Ŀ Int}(h:ly s):(Le s).Γ true:=by
 have key:=y5 s (by have:=h.1;omega) (λ_=>true) (step:=λa=>if a<(s.length:Int)then(Cq.Λ s a λc=>if c<(-1)then(Cq.ret (.inr (.inl false)))else(Cq.Λ s a λd=>if 1<d then Cq.fail else(Cq.ret (.inl (i64.wrap (a+1))))))else(Cq.ret (.inr (.inr ())))) (λi hi=>?_) ?_
 .have e:(s.all λ_=>true)=true:=Ć.2 λ_ _=>rfl;rw[e]at key;exact Cq.fi key rfl
 .have f:=h.2 _ (ă hi);exact Cq.wp.yes ŉ ⟨_,Ξ hi,Cq.wp.no ŉ ⟨_,Ξ hi,Cq.wp.no ŉ rfl⟩⟩
 exact Cq.wp.no ŉ rfl
def nb(x y m:Int):Ŀ Zl:=[l9 x m,l9 y m,l9 0 0,l9 0 0,l9 0 0,l9 0 0,l9 0 0,l9 0 0]
def nL(b:Ŀ Zl):Prop:=∃x y m,gQ x/\gQ y/\iB m/\b=nb x y m
def lf(x:Zl):Bool:=x.lo.num.υ.isEmpty&&x.hi.num.υ.isEmpty
def ie(n:Int)(b:Ŀ Zl):Bool:=decide (2<=n) || (b[1]?.map lf).getD true
theorem ZzQ:(ã (-128) 127 λn=>(Ν (nI n)).num.υ.isEmpty == decide (n=0))=true:=by decide +kernel
theorem ZzJ:(ã 0 7 λm=>(Ν (oN 0 m)).num.υ.isEmpty == decide (m=0))=true:=by decide +kernel
def wH(n m:Int):Bool:=decide (n=0)&&decide (m=0)
theorem T4{n m:Int}(h:gQ n)(c:iB m):lf (l9 n m)=wH n m:=by
 have l:=eq_of_beq (Zq ZzQ h.1 h.2);unfold lf wH;show((Ν (nI n)).num.υ.isEmpty&&(Ν (oN n m)).num.υ.isEmpty)=_;rw[l];by_cases a:n=0
 .subst a;rw[eq_of_beq (Zq ZzJ c.1 c.2)]
 rw[ċ a];rfl
theorem U4{n m:Int}(h:gQ n)(c:iB m):∃a b:Bool,(vu (l9 n m).lo).Γ a/\(tA (l9 n m).lo).Γ a/\(a=true->(vu (l9 n m).hi).Γ b/\(tA (l9 n m).hi).Γ b)/\lf (l9 n m)=(a&&b):=by rw[T4 h c];refine⟨_,_,(U6 h).1,(U6 h).2,λe=>?_,rfl⟩;have e:=ĥ e;subst e;exact ZzH c
theorem Mj{x y m:Int}(e:gQ x)(f:gQ y)(a:iB m){k:Nat}(c:k<8):∃n d,gQ n/\iB d/\(0:Int)<=(k:Int)/\(nb x y m)[(k:Int).toNat]?=some (l9 n d)/\(2<=k->n=0/\d=0)/\(k=1->n=y/\d=m):=by
 have z:gQ 0/\iB 0:=ĳ;match k,c with
 |0,_=>exact⟨x,m,e,a,ĳ,rfl,λh=>absurd h ĳ,λh=>absurd h ĳ⟩
 |1,_=>exact⟨y,m,f,a,ĳ,rfl,λh=>absurd h ĳ,λ_=>⟨rfl,rfl⟩⟩
 |2,_=>exact⟨0,0,z.1,z.2,ĳ,rfl,λ_=>⟨rfl,rfl⟩,λh=>absurd h ĳ⟩
 |3,_=>exact⟨0,0,z.1,z.2,ĳ,rfl,λ_=>⟨rfl,rfl⟩,λh=>absurd h ĳ⟩
 |4,_=>exact⟨0,0,z.1,z.2,ĳ,rfl,λ_=>⟨rfl,rfl⟩,λh=>absurd h ĳ⟩
 |5,_=>exact⟨0,0,z.1,z.2,ĳ,rfl,λ_=>⟨rfl,rfl⟩,λh=>absurd h ĳ⟩
 |6,_=>exact⟨0,0,z.1,z.2,ĳ,rfl,λ_=>⟨rfl,rfl⟩,λh=>absurd h ĳ⟩
 |7,_=>exact⟨0,0,z.1,z.2,ĳ,rfl,λ_=>⟨rfl,rfl⟩,λh=>absurd h ĳ⟩
def gp(n:Int)(b:Ŀ Zl)(k:Nat):Bool:=decide ((k:Int)<n) || (b[(k:Int).toNat]?.map lf).getD true
theorem SU{n:Int}(q:1<=n/\n<=4){b:Ŀ Zl}(h:nL b):(List.range 8).all (gp n b)=ie n b:=by
 obtain⟨x,y,m,j,l,i,rfl⟩:=h;have z:∀k,2<=k->k<8->gp n (nb x y m) k=true:=λk h2 g=>by obtain⟨a,d,_,_,_,e,p,_⟩:=Mj j l i g;obtain⟨rfl,rfl⟩:=p h2;unfold gp;rw[e];show(_ || lf (l9 0 0))=true;rw[T4 ĳ ĳ];exact abA _
 have c:gp n (nb x y m) 0=true:=by unfold gp;rw[decide_eq_true (show((0:Nat):Int)<n by omega)];rfl
 have f:gp n (nb x y m) 1=ie n (nb x y m):=by unfold gp ie;have:decide (((1:Nat):Int)<n)=decide (2<=n):=ũ.2 ⟨λh=>by omega,λh=>by omega⟩;rw[this];rfl
 show(gp n _ 0&&(gp n _ 1&&(gp n _ 2&&(gp n _ 3&&(gp n _ 4&&(gp n _ 5&&(gp n _ 6&&(gp n _ 7&&true))))))))=_;rw[c,f,z 2 ĳ ĳ,z 3 ĳ ĳ,z 4 ĳ ĳ,z 5 ĳ ĳ,z 6 ĳ ĳ,z 7 ĳ ĳ];simp
theorem Zzf{k:Zc}(p:1<=k.n/\k.n<=4){b:Ŀ Zl}(h:nL b):(eb ⟨k⟩ b).Γ (ie k.n b):=by
 rw[<-SU p h];obtain⟨x,y,m,q,r,n,rfl⟩:=h;refine xE (Bq 8 ĳ (gp k.n (nb x y m)) (λi hi=>?_) ?_) rfl rfl
 .obtain⟨a,d,g,j,f,e,_,_⟩:=Mj q r n hi;unfold gp;rw[e];show Cq.wp _ λo=>o=if(_ || lf (l9 a d))=true then _ else _;by_cases c:(i:Int)<k.n
  .rw[Ă c,ŭ,ą rfl];exact Cq.wp.yes ŉ ⟨_,⟨f,e⟩,Cq.wp.yes c ⟨true,Zob g j,Cq.wp.no (by show ¬k.n<=(i:Int);omega) rfl⟩⟩
  rw[ċ c,Ľ];obtain⟨u,v,t,s,z3,l⟩:=U4 g j;rw[l];refine Cq.wp.yes ŉ ⟨_,⟨f,e⟩,Cq.wp.no c (Cq.wp.yes (by show k.n<=(i:Int);omega) ⟨u,s,?_⟩)⟩;cases u with
  |false=>rfl
  |true=>
   refine⟨v,(z3 rfl).2,?_⟩;cases v with
   |false=>exact Cq.wp.yes rfl rfl
   |true=>exact Cq.wp.no ĳ rfl
 exact Cq.wp.no ĳ rfl
def kn(b:Ŀ (Ŀ Zl)):Prop:=b.length<=3/\∀x∈b,nL x
theorem SG{k:Zc}(a:1<=k.n/\k.n<=4){l:Ŀ (Ŀ Zl)}(h:kn l):(Á ⟨k⟩ l).Γ (l.all (ie k.n)):=by
 have c:=h.1;refine Cq.wp.yes ŉ ⟨_,xE (y5 l ŉ (ie k.n) (λi hi=>?_) ?_) rfl rfl,rfl⟩
 .refine Cq.wp.yes ŉ ⟨_,Ξ hi,_,Zzf a (h.2 _ (ă hi)),?_⟩;cases ie k.n l[i]with
  |false=>exact Cq.wp.yes rfl rfl
  |true=>exact Cq.wp.no ĳ rfl
 exact Cq.wp.no ŉ rfl
theorem Zy9{n:Int}(t:1<=n/\n<=4){l:Ŀ (Ŀ Zl)}{j:Nat}(r:j<l.length)(h:nL l[j]):(QJ l n (j:Int) 0).wp λo=>o=if ie n l[j]=true then .inr ()else .inl false:=by
 rw[<-SU t h];have kg:=Ξ r;obtain⟨x,y,m,A,B,s,p⟩:=h;rw[p]at kg⊢;refine Bq 8 ĳ (gp n (nb x y m)) (λi hi=>?_) ?_
 .obtain⟨a,d,f,g,c,e,_,_⟩:=Mj A B s hi;unfold gp;rw[e];show Cq.wp _ λo=>o=if(_ || lf (l9 a d))=true then _ else _;by_cases k:(i:Int)<n
  .rw[Ă k,ŭ,ą rfl];exact Cq.wp.yes ŉ ⟨_,kg,_,⟨c,e⟩,true,Qm f g,Cq.wp.no ŉ rfl⟩
  rw[ċ k,Ľ];obtain⟨u,v,C,D,z3,q⟩:=U4 f g;rw[q];refine Cq.wp.yes ŉ ⟨_,kg,_,⟨c,e⟩,true,Qm f g,Cq.wp.yes ŉ ⟨_,kg,_,⟨c,e⟩,u,C,?_⟩⟩;cases u with
  |false=>rfl
  |true=>
   refine⟨_,kg,_,⟨c,e⟩,v,(z3 rfl).1,?_⟩;cases v with
   |false=>exact Cq.wp.yes rfl rfl
   |true=>exact Cq.wp.no ĳ rfl
 exact Cq.wp.no ĳ rfl
theorem RX{n:Int}(a:1<=n/\n<=4){l:Ŀ (Ŀ Zl)}(h:kn l):(FK l n).Γ (l.all (ie n)):=by
 have c:=h.1;refine Cq.wp.no ŉ (xE (y5 l ŉ (ie n) (λi hi=>?_) ?_) rfl rfl)
 .refine Cq.wp.yes ŉ (Cq.fi (Zy9 a hi (h.2 _ (ă hi))) ?_);cases ie n l[i]with
  |false=>rfl
  |true=>rfl
 exact Cq.wp.no ŉ rfl
end Go.EL

namespace Go.EL
open Go.IntKind (i8 i16 i32 i64 u8 u16 u32 u64)
open Go Go.RowKit
theorem Cq.wp.nr{α:Type}{p:Prop}[Decidable p]{A B:Cq α}{q:α->Prop}(e:decide p=false)(h:B.wp q):(if p then A else B).wp q:=Cq.wp.no (aaV e) h
def rI(l:Ŀ Ù):Prop:=l.length<=3/\∀p∈l,Β p
inductive Ë:Zj->Prop
 |hN (c:Int) (p:Ù):c=1\/c=2\/c=10->Β p->Ë ⟨c,p,0,0,0,[],[],[],[]⟩
 |nil (c:Int):c=3\/c=9->Ë ⟨c,[],0,0,0,[],[],[],[]⟩
 |GW (o:Ord) (l:Ŀ Ù):o∈kQ->rI l->Ë ⟨4,[],0,0,0,o,l,[],[]⟩
 |BU (n d:Int):0<=n/\n<=15->-1<=d/\d<=2->Ë ⟨5,[],n,d,0,[],[],[],[]⟩
 |HM (n d r:Int):0<=r/\r<=d/\d<=n/\n<=7->Ë ⟨6,[],n,d,r,[],[],[],[]⟩
 |box (b:Ŀ (Ŀ Zl)):kn b->Ë ⟨7,[],0,0,0,[],[],[],b⟩
 |sig (p:Ù) (s:Ŀ Int) (b:Ŀ (Ŀ Zl)):Β p->ly s->s.length=b.length->kn b->Ë ⟨8,p,0,0,0,[],[],s,b⟩
 |u4 (l:Ŀ Ù):rI l->Ë ⟨11,[],0,0,0,[],l,[],[]⟩
 |zF (c n:Int):c=12\/c=13->0<=n/\n<=7->Ë ⟨c,[],n,0,0,[],[],[],[]⟩
def â(k:Zc)(c:Zj):Bool:=fR c.p k.n 12&&c.l.all (λp=>fR p k.n 64)&&c.b.all (ie k.n)&&(decide (c.kind≠5) || decide (c.d<=k.n))
theorem ox{n:Int}:fR [] n 12=true:=by have h:(ð []).toNat<2 ^ n.toNat:=aab _;unfold fR;rw[Ă h];rfl
theorem tx:(ZP ⟨0,[],0,0,0,[],[],[],[]⟩).Γ true:=Cq.Γ.mf 20 (by decide +kernel)
theorem ZnZ{k:Zc}(h:æ k){c:Zj}(u:Ë c):(EJ k c).Γ (â k c):=by
 have i:=h.n;have B:(Â ⟨k⟩).Γ true:=by have:=EW h;obtain⟨v,t,h2⟩:=this;have h2:v=true:=h2;subst h2;exact t
 refine⟨_,⟨true,B,Cq.wp.nr rfl ?_⟩,rfl⟩;cases u with
 |hN c p g hp=>
  have e:â k ⟨c,p,0,0,0,[],[],[],[]⟩=fR p k.n 12:=by unfold â;rw[Ă (show c≠5 by omega)];simp
  rw[e];have k3:(î ⟨⟨k⟩,⟨c,p,0,0,0,[],[],[],[]⟩⟩ true).Γ (fR p k.n 12):=by
   refine Cq.wp.yes rfl ⟨_,Kv i hp 12,?_⟩;cases fR p k.n 12 with
   |false=>exact Cq.wp.nr rfl rfl
   |true=>exact Cq.wp.yes rfl ⟨_,tx,rfl⟩
  rcases g with rfl|rfl|rfl
  .exact Cq.wp.yes rfl k3
  .exact Cq.wp.nr rfl (Cq.wp.yes rfl k3)
  exact Cq.wp.nr rfl (Cq.wp.nr rfl k3)
 |nil c g=>
  have e:â k ⟨c,[],0,0,0,[],[],[],[]⟩=true:=by unfold â;rw[Ă (show c≠5 by omega),ox];rfl
  rw[e];have k2:(ú ⟨⟨k⟩,⟨c,[],0,0,0,[],[],[],[]⟩⟩ true).Γ true:=Cq.wp.yes rfl (by
   rcases g with rfl|rfl
   .exact⟨_,tx,rfl⟩
   exact⟨_,tx,rfl⟩)
  rcases g with rfl|rfl
  .exact Cq.wp.nr rfl (Cq.wp.nr rfl (Cq.wp.nr rfl (Cq.wp.yes rfl k2)))
  exact Cq.wp.nr rfl (Cq.wp.nr rfl (Cq.wp.nr rfl (Cq.wp.nr rfl k2)))
 |GW o l y f=>
  have e:â k ⟨4,[],0,0,0,o,l,[],[]⟩=l.all λp=>fR p k.n 64:=by unfold â;rw[ox];simp
  rw[e];refine Cq.wp.nr rfl (Cq.wp.nr rfl (Cq.wp.nr rfl (Cq.wp.nr rfl (Cq.wp.nr rfl (Cq.wp.yes rfl ⟨true,Fi (kF.of (jY.b (.inl y)).1),_,T3 i f.1 f.2,?_⟩)))));cases l.all λp=>fR p k.n 64 with
  |false=>exact Cq.wp.nr rfl rfl
  |true=>exact Cq.wp.yes rfl ⟨_,tx,rfl⟩
 |BU n d j x=>
  have e:â k ⟨5,[],n,d,0,[],[],[],[]⟩=decide (d<=k.n):=by unfold â;rw[ox];simp
  rw[e];refine Cq.wp.nr rfl (Cq.wp.nr rfl (Cq.wp.nr rfl (Cq.wp.nr rfl (Cq.wp.nr rfl (Cq.wp.nr rfl (Cq.wp.yes rfl (Cq.wp.yes x.1 ?_)))))));by_cases a:d<=k.n
  .rw[Ă a];exact Cq.wp.yes a ⟨true,Cq.wp.yes j.1 (Ă (show n<=1000000 by omega)),Cq.wp.yes rfl ⟨_,tx,rfl⟩⟩
  rw[ċ a];exact Cq.wp.no a rfl
 |HM n d r hr=>
  have e:â k ⟨6,[],n,d,r,[],[],[],[]⟩=true:=by unfold â;rw[ox];rfl
  rw[e];refine Cq.wp.nr rfl (Cq.wp.nr rfl (Cq.wp.nr rfl (Cq.wp.nr rfl (Cq.wp.nr rfl (Cq.wp.nr rfl (Cq.wp.nr rfl (Cq.wp.yes rfl ?_)))))));exact Cq.wp.yes hr.1 (Cq.wp.yes hr.2.1 (Cq.wp.yes hr.2.2.1 ⟨true,Cq.wp.yes (show 0<=n by omega) (Ă (show n<=1000000 by omega)),Cq.wp.yes rfl ⟨_,tx,rfl⟩⟩))
 |box b m=>
  have e:â k ⟨7,[],0,0,0,[],[],[],b⟩=b.all (ie k.n):=by unfold â;rw[ox];simp
  rw[e];refine Cq.wp.nr rfl (Cq.wp.nr rfl (Cq.wp.nr rfl (Cq.wp.nr rfl (Cq.wp.nr rfl (Cq.wp.nr rfl (Cq.wp.nr rfl (Cq.wp.nr rfl (Cq.wp.yes rfl ⟨_,SG i m,?_⟩))))))));cases b.all (ie k.n)with
  |false=>exact Cq.wp.nr rfl rfl
  |true=>exact Cq.wp.yes rfl ⟨_,tx,rfl⟩
 |sig p s b hp A f m=>
  have e:â k ⟨8,p,0,0,0,[],[],s,b⟩=(fR p k.n 12&&b.all (ie k.n)):=by unfold â;simp
  rw[e];refine Cq.wp.nr rfl (Cq.wp.nr rfl (Cq.wp.nr rfl (Cq.wp.nr rfl (Cq.wp.nr rfl (Cq.wp.nr rfl (Cq.wp.nr rfl (Cq.wp.nr rfl (Cq.wp.nr rfl (Cq.wp.yes rfl ⟨_,Kv i hp 12,?_⟩)))))))));cases fR p k.n 12 with
  |false=>rfl
  |true=>
   refine⟨_,SG i m,?_⟩;cases b.all (ie k.n)with
   |false=>rfl
   |true=>exact Cq.wp.yes (show(s.length:Int)=(b.length:Int) by rw[f]) ⟨true,Zxl A,Cq.wp.yes rfl ⟨_,tx,rfl⟩⟩
 |u4 l f=>
  have e:â k ⟨11,[],0,0,0,[],l,[],[]⟩=l.all λp=>fR p k.n 64:=by unfold â;rw[ox];simp
  rw[e];refine Cq.wp.nr rfl (Cq.wp.nr rfl (Cq.wp.nr rfl (Cq.wp.nr rfl (Cq.wp.nr rfl (Cq.wp.nr rfl (Cq.wp.nr rfl (Cq.wp.nr rfl (Cq.wp.nr rfl (Cq.wp.nr rfl (Cq.wp.yes rfl ⟨_,T3 i f.1 f.2,?_⟩))))))))));cases l.all λp=>fR p k.n 64 with
  |false=>exact Cq.wp.nr rfl rfl
  |true=>exact Cq.wp.yes rfl ⟨_,tx,rfl⟩
 |zF c n g j=>
  have e:â k ⟨c,[],n,0,0,[],[],[],[]⟩=true:=by unfold â;rw[Ă (show c≠5 by omega),ox];rfl
  rw[e];have q:(ù ⟨⟨k⟩,⟨c,[],n,0,0,[],[],[],[]⟩⟩ true).Γ true:=
   Cq.wp.yes rfl ⟨true,Cq.wp.yes j.1 (Ă (show n<=1000000 by omega)),Cq.wp.yes rfl ⟨_,tx,rfl⟩⟩
  rcases g with rfl|rfl
  .exact Cq.wp.nr rfl (Cq.wp.nr rfl (Cq.wp.nr rfl (Cq.wp.nr rfl (Cq.wp.nr rfl (Cq.wp.nr rfl (Cq.wp.nr rfl (Cq.wp.nr rfl (Cq.wp.nr rfl (Cq.wp.nr rfl (Cq.wp.nr rfl (Cq.wp.yes rfl q)))))))))))
  exact Cq.wp.nr rfl (Cq.wp.nr rfl (Cq.wp.nr rfl (Cq.wp.nr rfl (Cq.wp.nr rfl (Cq.wp.nr rfl (Cq.wp.nr rfl (Cq.wp.nr rfl (Cq.wp.nr rfl (Cq.wp.nr rfl (Cq.wp.nr rfl (Cq.wp.nr rfl q)))))))))))
end Go.EL

namespace Go.EL
open Go.IntKind (i8 i16 i32 i64 u8 u16 u32 u64)
open Go Go.RowKit
theorem ZuZ{k:Zc}(h:æ k){c:Zj}(y:Ë c):(FJ k c).Γ (â k c):=by
 have m:=h.n;refine⟨true,Ku h,Cq.wp.nr rfl ?_⟩;have a:(xg [] k.n 12).Γ true:=by have:=Ey m (Β.of ĳ:Β []) 12;rwa [ox]at this
 cases y with
 |hN c p q hp=>
  have e:â k ⟨c,p,0,0,0,[],[],[],[]⟩=fR p k.n 12:=by unfold â;rw[Ă (show c≠5 by omega)];simp
  rw[e];refine Cq.wp.yes rfl (Cq.wp.yes rfl ⟨_,Ey m hp 12,?_⟩);have k3:(AE k ⟨c,p,0,0,0,[],[],[],[]⟩ (decide ((0:Int)=0)) (fR p k.n 12) true).Γ (fR p k.n 12):=by
   refine Cq.wp.yes rfl ?_;cases fR p k.n 12 with
   |false=>exact Cq.wp.nr rfl rfl
   |true=>exact Cq.wp.yes rfl (Cq.wp.yes rfl (Cq.wp.yes rfl (Cq.wp.yes rfl (Cq.wp.yes rfl rfl))))
  rcases q with rfl|rfl|rfl
  .exact Cq.wp.yes rfl k3
  .exact Cq.wp.nr rfl (Cq.wp.yes rfl k3)
  exact Cq.wp.nr rfl (Cq.wp.nr rfl k3)
 |nil c q=>
  have e:â k ⟨c,[],0,0,0,[],[],[],[]⟩=true:=by unfold â;rw[Ă (show c≠5 by omega),ox];rfl
  rw[e];refine Cq.wp.yes rfl (Cq.wp.yes rfl ⟨_,a,?_⟩);have k2:(EC k ⟨c,[],0,0,0,[],[],[],[]⟩ (decide ((0:Int)=0)) true true).Γ true:=
   Cq.wp.yes rfl (Cq.wp.yes rfl (Cq.wp.yes rfl (Cq.wp.yes rfl (Cq.wp.yes rfl (Cq.wp.yes rfl rfl)))))
  rcases q with rfl|rfl
  .exact Cq.wp.nr rfl (Cq.wp.nr rfl (Cq.wp.nr rfl (Cq.wp.yes rfl k2)))
  exact Cq.wp.nr rfl (Cq.wp.nr rfl (Cq.wp.nr rfl (Cq.wp.nr rfl k2)))
 |GW o l B j=>
  have e:â k ⟨4,[],0,0,0,o,l,[],[]⟩=l.all λp=>fR p k.n 64:=by unfold â;rw[ox];simp
  rw[e];refine Cq.wp.yes rfl (Cq.wp.yes rfl ⟨_,a,Cq.wp.nr rfl (Cq.wp.nr rfl (Cq.wp.nr rfl (Cq.wp.nr rfl (Cq.wp.nr rfl (Cq.wp.yes rfl ?_)))))⟩);exact Cq.wp.yes rfl (Cq.wp.yes rfl (Cq.wp.yes rfl (Cq.wp.yes rfl ⟨true,EI (kF.of (jY.b (.inl B)).1),Cq.wp.yes (by have:=j.1;show(l.length:Int)<=64;omega) ⟨_,Ta m j.1 j.2,rfl⟩⟩)))
 |BU n d t A=>
  have e:â k ⟨5,[],n,d,0,[],[],[],[]⟩=decide (d<=k.n):=by unfold â;rw[ox];simp
  rw[e];have g:∀v,(wW k ⟨5,[],n,d,0,[],[],[],[]⟩ v).Γ (decide (d<=k.n)):=λv=>by
   refine⟨_,a,Cq.wp.nr rfl (Cq.wp.nr rfl (Cq.wp.nr rfl (Cq.wp.nr rfl (Cq.wp.nr rfl (Cq.wp.nr rfl (Cq.wp.yes rfl ?_))))))⟩;refine Cq.wp.yes rfl (Cq.wp.yes rfl (Cq.wp.yes rfl (Cq.wp.yes rfl (Cq.wp.yes rfl (Cq.wp.yes rfl (Cq.wp.yes A.1 ?_))))));by_cases i:d<=k.n
   .rw[Ă i];exact Cq.wp.yes i ⟨true,Cq.wp.yes t.1 (Ă (show n<=1000000 by omega)),rfl⟩
   rw[ċ i];exact Cq.wp.no i rfl
  by_cases f:n=0
  .by_cases h2:d=0
   .exact Cq.wp.yes f (Cq.wp.yes h2 (g _))
   exact Cq.wp.yes f (Cq.wp.no h2 (g _))
  exact Cq.wp.no f (g _)
 |HM n d r hr=>
  have e:â k ⟨6,[],n,d,r,[],[],[],[]⟩=true:=by unfold â;rw[ox];rfl
  rw[e];have g:∀v,(wW k ⟨6,[],n,d,r,[],[],[],[]⟩ v).Γ true:=λv=>by refine⟨_,a,Cq.wp.nr rfl (Cq.wp.nr rfl (Cq.wp.nr rfl (Cq.wp.nr rfl (Cq.wp.nr rfl (Cq.wp.nr rfl (Cq.wp.nr rfl (Cq.wp.yes rfl ?_)))))))⟩;exact Cq.wp.yes rfl (Cq.wp.yes rfl (Cq.wp.yes rfl (Cq.wp.yes rfl (Cq.wp.yes rfl ⟨true,Cq.wp.yes (show 0<=n by omega) (Ă (show n<=1000000 by omega)),Cq.wp.yes hr.1 (Cq.wp.yes hr.2.1 (Ă hr.2.2.1))⟩))))
  by_cases f:n=0
  .by_cases h2:d=0
   .exact Cq.wp.yes f (Cq.wp.yes h2 (g _))
   exact Cq.wp.yes f (Cq.wp.no h2 (g _))
  exact Cq.wp.no f (g _)
 |box b u=>
  have e:â k ⟨7,[],0,0,0,[],[],[],b⟩=b.all (ie k.n):=by unfold â;rw[ox];simp
  rw[e];refine Cq.wp.yes rfl (Cq.wp.yes rfl ⟨_,a,Cq.wp.nr rfl (Cq.wp.nr rfl (Cq.wp.nr rfl (Cq.wp.nr rfl (Cq.wp.nr rfl (Cq.wp.nr rfl (Cq.wp.nr rfl (Cq.wp.nr rfl (Cq.wp.yes rfl ?_))))))))⟩);exact Cq.wp.yes rfl (Cq.wp.yes rfl (Cq.wp.yes rfl (Cq.wp.yes rfl (Cq.wp.yes rfl ⟨_,RX m u,rfl⟩))))
 |sig p s b hp C j u=>
  have e:â k ⟨8,p,0,0,0,[],[],s,b⟩=(fR p k.n 12&&b.all (ie k.n)):=by unfold â;simp
  rw[e];refine Cq.wp.yes rfl (Cq.wp.yes rfl ⟨_,Ey m hp 12,Cq.wp.nr rfl (Cq.wp.nr rfl (Cq.wp.nr rfl (Cq.wp.nr rfl (Cq.wp.nr rfl (Cq.wp.nr rfl (Cq.wp.nr rfl (Cq.wp.nr rfl (Cq.wp.nr rfl (Cq.wp.yes rfl ?_)))))))))⟩);cases fR p k.n 12 with
  |false=>exact Cq.wp.nr rfl rfl
  |true=>
   refine Cq.wp.yes rfl (Cq.wp.yes rfl (Cq.wp.yes rfl (Cq.wp.yes rfl ⟨_,RX m u,?_⟩)));cases b.all (ie k.n)with
   |false=>rfl
   |true=>exact Cq.wp.yes (show(s.length:Int)=(b.length:Int) by rw[j]) ⟨true,Zu3 C,rfl⟩
 |u4 l j=>
  have e:â k ⟨11,[],0,0,0,[],l,[],[]⟩=l.all λp=>fR p k.n 64:=by unfold â;rw[ox];simp
  rw[e];refine Cq.wp.yes rfl (Cq.wp.yes rfl ⟨_,a,Cq.wp.nr rfl (Cq.wp.nr rfl (Cq.wp.nr rfl (Cq.wp.nr rfl (Cq.wp.nr rfl (Cq.wp.nr rfl (Cq.wp.nr rfl (Cq.wp.nr rfl (Cq.wp.nr rfl (Cq.wp.nr rfl (Cq.wp.yes rfl ?_))))))))))⟩);exact Cq.wp.yes rfl (Cq.wp.yes rfl (Cq.wp.yes rfl (Cq.wp.yes rfl (Cq.wp.yes rfl (Cq.wp.yes (by have:=j.1;show(l.length:Int)<=64;omega) ⟨_,Ta m j.1 j.2,rfl⟩)))))
 |zF c n q t=>
  have e:â k ⟨c,[],n,0,0,[],[],[],[]⟩=true:=by unfold â;rw[Ă (show c≠5 by omega),ox];rfl
  rw[e];have x:(EB ⟨c,[],n,0,0,[],[],[],[]⟩ true).Γ true:=
   Cq.wp.yes rfl (Cq.wp.yes rfl (Cq.wp.yes rfl (Cq.wp.yes rfl (Cq.wp.yes rfl (Cq.wp.yes rfl (Cq.wp.yes rfl (Cq.wp.yes rfl ⟨true,Cq.wp.yes t.1 (Ă (show n<=1000000 by omega)),rfl⟩)))))))
  have g:∀v,(wW k ⟨c,[],n,0,0,[],[],[],[]⟩ v).Γ true:=λv=>by
   refine⟨_,a,?_⟩;rcases q with rfl|rfl
   .exact Cq.wp.nr rfl (Cq.wp.nr rfl (Cq.wp.nr rfl (Cq.wp.nr rfl (Cq.wp.nr rfl (Cq.wp.nr rfl (Cq.wp.nr rfl (Cq.wp.nr rfl (Cq.wp.nr rfl (Cq.wp.nr rfl (Cq.wp.nr rfl (Cq.wp.yes rfl x)))))))))))
   exact Cq.wp.nr rfl (Cq.wp.nr rfl (Cq.wp.nr rfl (Cq.wp.nr rfl (Cq.wp.nr rfl (Cq.wp.nr rfl (Cq.wp.nr rfl (Cq.wp.nr rfl (Cq.wp.nr rfl (Cq.wp.nr rfl (Cq.wp.nr rfl (Cq.wp.nr rfl x)))))))))))
  by_cases f:n=0
  .exact Cq.wp.yes f (Cq.wp.yes rfl (g _))
  exact Cq.wp.no f (g _)
end Go.EL

namespace Go.EL
open Go.IntKind (i8 i16 i32 i64 u8 u16 u32 u64)
open Go Go.RowKit
theorem SI{p q:Ù}(hp:Β p)(a:Β q):decide (í p q=0)=decide (p=q):=by refine ũ.2 ⟨A6 hp.gu a.gu,?_⟩;rintro rfl;exact xw p
theorem Sn{p q:Ù}(hp:Β p)(a:Β q):(ZU p q).Γ (decide (p=q)):=by have:=Fh hp.gu a.gu;rwa [SI hp a]at this
theorem KT{p q:Ù}(hp:Β p)(a:Β q):(tE p q).Γ (decide (p=q)):=by have:=Ki hp.gu a.gu;rwa [SI hp a]at this
def n5(a b:Ord)(k:Nat):Bool:=decide (a[k]?=b[k]?)
theorem Uc{a b:Ord}(h:a.length=b.length):(List.range a.length).all (n5 a b)=decide (a=b):=by
 rw[abE,Ć,Ę];constructor
 .intro c;refine Ÿ λk=>?_;by_cases d:k<a.length
  .exact ĥ (c k (ĺ.2 d))
  rw[ł ŉ,ł ŉ]
 rintro rfl k _;exact Ă rfl
theorem Ub{a b:Ord}{k:Nat}(c:k<a.length)(d:k<b.length):n5 a b k=decide (a[k]=b[k]):=by unfold n5;rw[Ą c,Ą d];exact ũ.2 ⟨λe=>ŧ e,λe=>đ some e⟩
theorem Zsn{a b:Ord}(f:a.length<=1000):(Ej a b).Γ (decide (a=b)):=by
 by_cases d:a.length=b.length
 .refine Cq.wp.no (λe=>e ŉ) ?_;rw[<-Uc d];refine xE (Bq a.length f (n5 a b) (λk c=>?_) ?_) rfl rfl
  .rw[Ub c ŉ];refine Cq.wp.yes ŉ ⟨_,Ξ c,_,Ξ (show k<b.length by omega),?_⟩;by_cases e:a[k]=b[k]
   .rw[Ă e];exact Cq.wp.no (λh=>h e) rfl
   rw[ċ e];exact Cq.wp.yes e rfl
  exact Cq.wp.no ŉ rfl
 refine Cq.wp.yes ŉ ?_;show _=_;rw[ċ λe=>d (đ List.length e)]
theorem Zpw{a b:Ord}(f:a.length<=1000):(FR a b).Γ (decide (a=b)):=by
 by_cases d:a.length=b.length
 .refine Cq.wp.no (λe=>e ŉ) ?_;rw[<-Uc d];refine xE (Bq a.length f (n5 a b) (λk c=>?_) ?_) rfl rfl
  .rw[Ub c ŉ];refine Cq.wp.yes ŉ ⟨_,Ξ c,_,Ξ (show k<b.length by omega),?_⟩;by_cases e:a[k]=b[k]
   .rw[Ă e];exact Cq.wp.no (λh=>h e) rfl
   rw[ċ e];exact Cq.wp.yes e rfl
  exact Cq.wp.no ŉ rfl
 refine Cq.wp.yes ŉ ?_;show _=_;rw[ċ λe=>d (đ List.length e)]
theorem Ë.parts{c:Zj}(h:Ë c):Β c.p/\jY c.o/\(0<=c.n/\c.n<=15)/\(0<=c.r/\c.r<=15)/\c.b.length<=3:=by
 have p0:Β []:=Β.of ĳ;have o0:jY []:=(eY.nil 0).o;have z:(0:Int)<=0/\(0:Int)<=15:=ĳ;have l0:([]:Ŀ (Ŀ Zl)).length<=3:=ĳ;cases h with
 |hN c p _ hp=>exact⟨hp,o0,z,z,l0⟩
 |nil c _=>exact⟨p0,o0,z,z,l0⟩
 |GW o l f _=>exact⟨p0,.inl f,z,z,l0⟩
 |BU n d e _=>exact⟨p0,o0,e,z,l0⟩
 |HM n d r h=>exact⟨p0,o0,by show 0<=n/\n<=15;omega,by show 0<=r/\r<=15;omega,l0⟩
 |box b a=>exact⟨p0,o0,z,z,a.1⟩
 |sig p s b hp _ _ a=>exact⟨hp,o0,z,z,a.1⟩
 |u4 l _=>exact⟨p0,o0,z,z,l0⟩
 |zF c n _ e=>exact⟨p0,o0,by show 0<=n/\n<=15;omega,z,l0⟩
def qI(k:Zc)(q:Zb)(c:Zj):Bool:=
 if q.kind=1 then decide (c.kind=1\/c.kind=2)&&decide (q.p=c.p)
 else if q.kind=2 then decide (c.kind=3) || (decide (c.kind=2)&&decide (k.δ=[])&&decide (c.p=iW))
 else if q.kind=3 then decide (c.kind=4)&&decide (q.o=c.o)
 else if q.kind=4 then decide (c.kind=5)
 else if q.kind=5 then decide (c.kind=6)
 else if q.kind=6 then decide (c.kind=7)
 else if q.kind=7 then decide (c.kind=8)&&decide (q.p=c.p)
 else if q.kind=8 then decide (c.kind=9) || decide (c.kind=6) || (decide (c.kind=13)&&decide (1<=c.n))
 else if q.kind=9 then decide (c.kind=10)&&decide (q.p=c.p)
 else if q.kind=10 then decide (c.kind=11)else false
theorem ZT{α:Type}{p:Prop}[Decidable p]{A B:Cq α}{a b:α}(c:p->A.Γ a)(h2:¬p->B.Γ b):(if p then A else B).Γ (if p then a else b):=by
 by_cases h:p
 .refine Cq.wp.yes h ?_;rw[ą h];exact c h
 refine Cq.wp.no h ?_;rw[ā h];exact h2 h
theorem pA{p:Prop}[Decidable p]{A:Cq Bool}{b:Bool}(h:A.Γ b):(if p then A else Cq.ret false).Γ (decide p&&b):=by
 by_cases hp:p
 .rw[Ă hp,ť];exact Cq.wp.yes hp h
 rw[ċ hp,Ŷ];exact Cq.wp.no hp rfl
theorem CN{α:Type}[DecidableEq α](l:Ŀ α):decide ((l.length:Int)=0)=decide (l=[]):=by
 cases l with
 |nil=>rfl
 |cons a l=>simp;omega
theorem ZsC{k:Zc}{q:Zb}(j:eY q){c:Zj}(g:Ë c):(JT k q c).Γ (qI k q c):=by
 obtain⟨hp,i,_⟩:=g.parts;have f:(Cq.bind (ZU c.p q.p) λy=>Cq.ret y).Γ (decide (q.p=c.p)):=by have:=Sn hp j.p;rw[show decide (c.p=q.p)=decide (q.p=c.p)from ũ.2 ⟨Eq.symm,Eq.symm⟩]at this;exact⟨_,this,rfl⟩
 have hr:(Cq.bind (Ej c.o q.o) λy=>Cq.ret y).Γ (decide (q.o=c.o)):=by have:=Zsn (b:=q.o) (show c.o.length<=1000 by have:=(kF.of i.b.1).len;omega);rw[show decide (c.o=q.o)=decide (q.o=c.o)from ũ.2 ⟨Eq.symm,Eq.symm⟩]at this;exact⟨_,this,rfl⟩
 unfold qI;refine ZT (λ_=>?_) λ_=>ZT (λ_=>?_) λ_=>ZT (λ_=>pA hr) λ_=>ZT (λ_=>rfl) λ_=>ZT (λ_=>rfl) λ_=>ZT (λ_=>rfl) λ_=>ZT (λ_=>pA f) λ_=>ZT (λ_=>?_) λ_=>ZT (λ_=>pA f) λ_=>ZT (λ_=>rfl) λ_=>rfl
 .by_cases a:c.kind=1
  .rw[Ă (show c.kind=1\/c.kind=2 from .inl a),ť];exact Cq.wp.yes a f
  rw[show decide (c.kind=1\/c.kind=2)=decide (c.kind=2)from ũ.2 ⟨λh=>h.resolve_left a,.inr⟩];exact Cq.wp.no a (pA f)
 .refine⟨ý 1,(xL (n:=1) ĳ).2,iW,qe,?_⟩;by_cases h3:c.kind=3
  .rw[Ă h3,ŭ];exact Cq.wp.yes h3 rfl
  rw[ċ h3,Ľ,Bool.and_assoc,<-CN];exact Cq.wp.no h3 (pA (pA ⟨_,Sn hp Bv,rfl⟩))
 by_cases e:c.kind=9
 .rw[Ă e,ŭ,ŭ];exact Cq.wp.yes e rfl
 rw[ċ e,Ľ];refine Cq.wp.no e ?_;by_cases d:c.kind=6
 .rw[Ă d,ŭ];exact Cq.wp.yes d rfl
 rw[ċ d,Ľ];exact Cq.wp.no d (pA rfl)
theorem Zq5{k:Zc}{q:Zb}(f:eY q){c:Zj}(g:Ë c):(Ka k q c).Γ (qI k q c):=by
 obtain⟨hp,i,_⟩:=g.parts;refine⟨_,KT f.p hp,?_⟩;have hr:(Cq.bind (FR q.o c.o) λy=>Cq.ret y).Γ (decide (q.o=c.o)):=⟨_,Zpw (show q.o.length<=1000 by have:=(kF.of f.o.b.1).len;omega),rfl⟩;unfold qI;refine ZT (λ_=>?_) λ_=>ZT (λ_=>?_) λ_=>ZT (λ_=>pA hr) λ_=>ZT (λ_=>rfl) λ_=>ZT (λ_=>rfl) λ_=>ZT (λ_=>rfl) λ_=>ZT (λ_=>pA rfl) λ_=>ZT (λ_=>?_) λ_=>ZT (λ_=>pA rfl) λ_=>ZT (λ_=>rfl) λ_=>rfl
 .by_cases a:c.kind=1
  .rw[Ă (show c.kind=1\/c.kind=2 from .inl a),ť];exact Cq.wp.yes a rfl
  rw[show decide (c.kind=1\/c.kind=2)=decide (c.kind=2)from ũ.2 ⟨λh=>h.resolve_left a,.inr⟩];exact Cq.wp.no a (pA rfl)
 .by_cases h3:c.kind=3
  .rw[Ă h3,ŭ];exact Cq.wp.yes h3 rfl
  rw[ċ h3,Ľ,show(decide (c.kind=2)&&decide (k.δ=[])&&decide (c.p=iW))=(decide (k.δ=[])&&(decide (c.kind=2)&&decide (c.p=iW))) by rw[Bool.and_comm (decide (c.kind=2)),Bool.and_assoc],<-CN];exact Cq.wp.no h3 (pA (pA ⟨_,(xL (n:=1) ĳ).1,iW,qg,_,KT hp Bv,rfl⟩))
 by_cases e:c.kind=9
 .rw[Ă e,ŭ,ŭ];exact Cq.wp.yes e rfl
 rw[ċ e,Ľ];refine Cq.wp.no e ?_;by_cases d:c.kind=6
 .rw[Ă d,ŭ];exact Cq.wp.yes d rfl
 rw[ċ d,Ľ];exact Cq.wp.no d (pA rfl)
def mj(q:Zb)(c:Zj):Int×Int:=
 if q.kind=5 then(if c.kind=6 then(c.n,c.n)else if c.kind=12 then(0,c.n)else(0,-1))
 else if q.kind=8\/q.kind=6 then(if c.kind=6 then(c.r,c.r)else if c.kind=7\/c.kind=8 then((c.b.length:Int),(c.b.length:Int))else if c.kind=9 then(0,0)else if c.kind=13 then(c.n,-1)else if c.kind=12 then(0,c.n)else(0,-1))
 else(0,-1)
theorem ZuG(q:Zb)(c:Zj):(JP q c).Γ (mj q c):=by
 have e:(D5 c (decide (c.kind=8))).Γ (if c.kind=8 then((c.b.length:Int),(c.b.length:Int))else if c.kind=9 then(0,0)else if c.kind=13 then(c.n,-1)else if c.kind=12 then(0,c.n)else(0,-1)):=by
  by_cases a:c.kind=8
  .rw[ą a];exact Cq.wp.yes (Ă a) rfl
  rw[ā a];exact Cq.wp.no (by simpa using a) (ZT (λ_=>rfl) λ_=>ZT (λ_=>rfl) λ_=>ZT (λ_=>rfl) λ_=>rfl)
 have k2:(D6 c true).Γ (if c.kind=6 then(c.r,c.r)else if c.kind=7\/c.kind=8 then((c.b.length:Int),(c.b.length:Int))else if c.kind=9 then(0,0)else if c.kind=13 then(c.n,-1)else if c.kind=12 then(0,c.n)else(0,-1)):=by
  refine Cq.wp.yes rfl (ZT (λ_=>rfl) λ_=>?_);by_cases h7:c.kind=7
  .rw[ą (Or.inl h7)];refine Cq.wp.yes h7 ?_;rw[Ă h7];exact Cq.wp.yes rfl rfl
  refine Cq.wp.no h7 ?_;rw[show(if c.kind=7\/c.kind=8 then((c.b.length:Int),(c.b.length:Int))else if c.kind=9 then(0,0)else if c.kind=13 then(c.n,-1)else if c.kind=12 then(0,c.n)else(0,-1))=(if c.kind=8 then((c.b.length:Int),(c.b.length:Int))else if c.kind=9 then(0,0)else if c.kind=13 then(c.n,-1)else if c.kind=12 then(0,c.n)else(0,-1)) by simp only[h7,false_or]];exact e
 unfold mj;refine ZT (λ_=>ZT (λ_=>rfl) λ_=>ZT (λ_=>rfl) λ_=>rfl) λ_=>?_;by_cases a:q.kind=8
 .rw[ą (Or.inl a)];refine Cq.wp.yes a ?_;rw[Ă a];exact k2
 refine Cq.wp.no a ?_;by_cases d:q.kind=6
 .rw[ą (Or.inr d),Ă d];exact k2
 rw[ā ŉ,ċ d];exact Cq.wp.no ĳ rfl
end Go.EL

namespace Go.EL
open Go.IntKind (i8 i16 i32 i64 u8 u16 u32 u64)
open Go Go.RowKit
theorem zr{α:Type}{p:Prop}[Decidable p]{A B:Cq α}{a b:α}(c:p->A.Γ a)(h2:¬p->B.Γ b):(if decide p=true then A else B).Γ (if p then a else b):=by
 by_cases h:p
 .refine Cq.wp.yes (Ă h) ?_;rw[ą h];exact c h
 refine Cq.wp.no (by rw[ċ h];decide) ?_;rw[ā h];exact h2 h
theorem Ztj(q:Zb)(c:Zj):(Ks q c).Γ (mj q c):=by
 have i:(yG c true false).Γ (if c.kind=6 then(c.n,c.n)else if c.kind=12 then(0,c.n)else(0,-1)):=
  Cq.wp.yes rfl (zr (λ_=>rfl) λ_=>Cq.wp.yes rfl (zr (λ_=>rfl) λ_=>Cq.wp.nr rfl (Cq.wp.nr rfl (Cq.wp.nr rfl (Cq.wp.nr rfl (Cq.wp.nr rfl (Cq.wp.nr rfl rfl)))))))
 have j:(yG c false false).Γ (0,-1):=
  Cq.wp.nr rfl (Cq.wp.nr rfl (Cq.wp.nr rfl (Cq.wp.nr rfl (Cq.wp.nr rfl (Cq.wp.nr rfl (Cq.wp.nr rfl (Cq.wp.nr rfl (Cq.wp.nr rfl (Cq.wp.nr rfl (Cq.wp.nr rfl rfl))))))))))
 have g:(yG c false true).Γ (if c.kind=12 then(0,c.n)else if c.kind=6 then(c.r,c.r)else if c.kind=7 then((c.b.length:Int),(c.b.length:Int))else if c.kind=8 then((c.b.length:Int),(c.b.length:Int))else if c.kind=9 then(0,0)else if c.kind=13 then(c.n,-1)else(0,-1)):=by refine Cq.wp.nr rfl (Cq.wp.nr rfl (Cq.wp.nr rfl (Cq.wp.yes rfl (zr (λ_=>rfl) λ_=>Cq.wp.yes rfl (zr (λ_=>rfl) λ_=>Cq.wp.yes rfl (ZT (λ_=>Cq.wp.yes rfl rfl) λ_=>?_))))));exact zr (λ_=>rfl) λ_=>Cq.wp.yes rfl (zr (λ_=>rfl) λ_=>Cq.wp.yes rfl (ZT (λ_=>rfl) λ_=>rfl))
 have h:(if c.kind=12 then(0,c.n)else if c.kind=6 then(c.r,c.r)else if c.kind=7 then((c.b.length:Int),(c.b.length:Int))else if c.kind=8 then((c.b.length:Int),(c.b.length:Int))else if c.kind=9 then(0,0)else if c.kind=13 then(c.n,-1)else(0,-1))=(if c.kind=6 then(c.r,c.r)else if c.kind=7\/c.kind=8 then((c.b.length:Int),(c.b.length:Int))else if c.kind=9 then(0,0)else if c.kind=13 then(c.n,-1)else if c.kind=12 then(0,c.n)else(0,-1)):=by
  by_cases a:c.kind=12
  .simp[a]
  by_cases h7:c.kind=7
  .simp[h7]
  simp[a,h7]
 rw[h]at g;unfold mj;by_cases f:q.kind=8
 .refine Cq.wp.yes f ?_;rw[ā ŉ,ą (Or.inl f),ċ ŉ];exact g
 refine Cq.wp.no f ?_;by_cases d:q.kind=5
 .rw[ą d,Ă d,ċ ŉ];exact i
 rw[ā d,ċ d];by_cases e:q.kind=6
 .rw[ą (Or.inr e),Ă e];exact g
 rw[ā ŉ,ċ e];exact j
def CQ(a b:Int):Int:=if a<b then b else a
def qS(a b:Int):Int:=if 0<=b then(if a<0 then b else if b<a then b else a)else a
theorem Wx{a b:Int}(c:0<=b)(d:a<0):qS a b=b:=by unfold qS;rw[if_pos c,if_pos d]
theorem Cc{a b:Int}(c:0<=b)(d:¬a<0)(h2:b<a):qS a b=b:=by unfold qS;rw[if_pos c,if_neg d,if_pos h2]
theorem Wy{a b:Int}(c:0<=b)(d:¬a<0)(h2:¬b<a):qS a b=a:=by unfold qS;rw[if_pos c,if_neg d,if_neg h2]
theorem Wz{a b:Int}(c:¬0<=b):qS a b=a:=by unfold qS;rw[if_neg c]
def jy(t:Ze)(c:Zj):Ze:=⟨t.id,t.k,t.q,t.ψ,CQ t.low (mj t.q c).1,qS t.high (mj t.q c).2,t.done || qI t.k t.q c⟩
theorem RJ(c:Zj)(t:Ze):(Eh c t).Γ ⟨t.id,t.k,t.q,t.ψ,CQ t.low (mj t.q c).1,qS t.high (mj t.q c).2,t.done⟩:=by
 refine⟨_,ZuG t.q c,?_⟩;by_cases a:0<=(mj t.q c).2
 .by_cases d:t.high<0
  .rw[Wx a d];exact Cq.wp.yes a (Cq.wp.yes d rfl)
  by_cases h2:(mj t.q c).2<t.high
  .rw[Cc a d h2];exact Cq.wp.yes a (Cq.wp.no d (Cq.wp.yes h2 rfl))
  rw[Wy a d h2];exact Cq.wp.yes a (Cq.wp.no d (Cq.wp.no h2 rfl))
 rw[Wz a];exact Cq.wp.no a rfl
theorem ZwU{t:Ze}(d:eY t.q){c:Zj}(a:Ë c):(KE t c).Γ (jy t c):=by
 refine⟨_,ZsC d a,?_⟩;unfold jy;cases qI t.k t.q c with
 |true=>rw[abA];exact Cq.wp.yes rfl (RJ c _)
 |false=>rw[abP];exact Cq.wp.nr rfl (RJ c _)
theorem Ro(b:Int×Int)(t:Ze):(Et b t).Γ ⟨t.id,t.k,t.q,t.ψ,CQ t.low b.1,qS t.high b.2,t.done⟩:=by
 by_cases a:0<=b.2
 .by_cases c:t.high<0
  .rw[Wx a c];exact Cq.wp.yes a (Cq.wp.yes c rfl)
  by_cases h2:b.2<t.high
  .rw[Cc a c h2];exact Cq.wp.yes a (Cq.wp.no c (Cq.wp.yes h2 rfl))
  rw[Wy a c h2];exact Cq.wp.yes a (Cq.wp.no c (Cq.wp.no h2 rfl))
 rw[Wz a];exact Cq.wp.no a rfl
theorem Zra{t:Ze}(e:eY t.q){c:Zj}(d:Ë c):(Kt t c).Γ (jy t c):=by
 refine⟨_,Ztj t.q c,?_⟩;unfold jy;by_cases a:t.done=true
 .refine Cq.wp.yes a ?_;rw[a,ŭ];exact Ro _ _
 refine Cq.wp.no a ⟨_,Zq5 e d,?_⟩;rw[show t.done=false by simpa using a,Ľ];exact Ro _ _
theorem Bk(l:Ŀ Zj)(t:Ze):(l.foldl jy t).id=t.id/\(l.foldl jy t).k=t.k/\(l.foldl jy t).q=t.q/\(l.foldl jy t).ψ=t.ψ:=by
 induction l generalizing t with
 |nil=>exact⟨rfl,rfl,rfl,rfl⟩
 |cons c l e=>
  obtain⟨a,h2,h3,d⟩:=e (jy t c);exact⟨a,h2,h3,d⟩
def lk(id tried:Int)(t:Ze):Ze:=if t.id=id then⟨t.id,t.k,t.q,if t.ψ<tried+1 then tried+1 else t.ψ,t.low,t.high,t.done⟩else t
def stepT(k:Zc)(id:Int)(l:Ŀ Zj)(tried:Int)(t:Ze):Ze:=lk id tried (if ü t.k=ü k then l.foldl jy t else t)
def gT(B:Zd)(id:Int)(l:Ŀ Zj)(tried:Int):Zd×Int:=
 if(dE B.t id).2=false then(⟨[],0⟩,380)
 else if tried<0\/12<tried then(⟨[],0⟩,1)
 else if l.all (â (dE B.t id).1.k)=true then(⟨B.t.map (stepT (dE B.t id).1.k id l tried),B.next⟩,0)
 else(⟨[],0⟩,1)
end Go.EL

namespace Go.EL
open Go.IntKind (i8 i16 i32 i64 u8 u16 u32 u64)
open Go Go.RowKit
theorem ZsD{l:Ŀ Ze}(a:l.length<=1000):(Z4 l).Γ l:=
 ⟨λe=>by subst e;rfl,by rw[ļ];simp only[small];omega,ļ l⟩
theorem K4{l:Ŀ Ze}{id:Int}(h:(dE l id).2=true):(dE l id).1∈l/\(dE l id).1.id=id:=by
 unfold dE at h⊢;cases a:l.find? λt=>decide (t.id=id)with
 |none=>rw[a]at h;cases h
 |some t=>exact⟨ej a,by simpa using aaj a⟩
theorem UB{α:Type}{E:α}(l:Ŀ Zj)(q:l.length<=1000)(f:Zj->Bool)(X:Zd){step:Int×Zd->Cq ((Int×Zd)⊕(α⊕Zd))}
  (h:∀k (g:k<l.length),(step ((k:Int),X)).wp λo=>o=if f l[k]=true then .inl (i64.wrap ((k:Int)+1),X)else .inr (.inl E))
  (a:(step ((l.length:Int),X)).wp λo=>o=.inr (.inr X)):(Cq.loop step (0,X)).wp λo=>o=if l.all f=true then .inr X else .inl E:=by
 refine Cq.Zo l.length (λk s=>s=((k:Int),X)/\∀i (hi:i<l.length),i<k->f l[i]=true) (λk s g m=>?_) (λs m=>?_) ⟨rfl,λi _ hi=>absurd hi (ı _)⟩
 .obtain⟨rfl,d⟩:=m
  refine(step _).mono (λo j=>?_) (h k g)
  subst j
  by_cases c:f l[k]=true
  .rw[ą c]
   refine⟨by rw[χ ŉ],λi hi n=>?_⟩
   by_cases e:i=k
   .subst e;exact c
   exact d i hi ŉ
  rw[ā c]
  show _=_
  rw[ā λe=>c (Ć.1 e _ (ă g))]
 obtain⟨rfl,d⟩:=m
 refine(step _).mono (λo j=>?_) a
 subst j
 show _=_
 rw[ą (Ć.2 λx p=>by obtain⟨i,hi,rfl⟩:=Ŕ p;exact d i hi hi)]
theorem Zx4{l:Ŀ Zj}(g:l.length<=1000)(e:∀c∈l,Ë c){t:Ze}(f:eY t.q):(P5 l (0,t)).Γ (l.foldl jy t):=by
 refine Cq.Zo l.length (λk s=>s=((k:Int),(l.take k).foldl jy t)) (λk s a d=>?_) (λs d=>?_) rfl
 .subst d;refine Cq.wp.yes ŉ ⟨_,Ξ a,_,ZwU (by rw[(Bk _ t).2.2.1];exact f) (e _ (ă a)),?_⟩;show _=_;rw[χ ŉ,č a,abf];rfl
 subst d;refine Cq.wp.no ŉ ?_;rw[Ħ];exact rfl
theorem ZvZ{l:Ŀ Zj}(j:l.length<=1000)(g:∀c∈l,Ë c){t own:Ze}(i:eY t.q)(a:jL t.k)(h:jL own.k)(b:Bool):(Qy l (own,b) (0,t)).Γ (if ü t.k=ü own.k then l.foldl jy t else t):=by
 have d:=Fq a h;by_cases e:ü t.k=ü own.k
 .rw[ą e];rw[Ă e]at d;refine Cq.Zo l.length (λk s=>s=((k:Int),(l.take k).foldl jy t)) (λk s a oq=>?_) (λs oq=>?_) rfl
  .subst oq;refine Cq.wp.yes ŉ ⟨true,by rw[(Bk _ t).2.1];exact d,Cq.wp.yes rfl ⟨_,Ξ a,_,Zra (by rw[(Bk _ t).2.2.1];exact i) (g _ (ă a)),?_⟩⟩;show _=_;rw[χ ŉ,č a,abf];rfl
  subst oq;refine Cq.wp.no ŉ ?_;rw[Ħ];exact rfl
 rw[ā e];rw[ċ e]at d;refine Cq.Zt ?_;by_cases f:(0:Int)<(l.length:Int)
 .exact Cq.wp.yes f ⟨false,d,Cq.wp.nr rfl rfl⟩
 exact Cq.wp.no f rfl
theorem TR{id tried:Int}(f:0<=tried/\tried<=12){T:Ŀ Ze}{k:Nat}(a:k<T.length)(d:T.length<=1000)(n:Int)(t:Ze):(yI id tried T (k:Int) n t).wp λo=>o=.inl (T.set k (lk id tried t),((k+1:Nat):Int),n):=by
 unfold lk;have c:i64.wrap (tried+1)=tried+1:=wrap64 ŉ;by_cases e:t.id=id
 .rw[ą e];refine Cq.wp.yes e ⟨_,Ξ a,?_⟩;show _=_;rw[χ ŉ,c,Ĕ]
 rw[ā e];refine Cq.wp.no e ⟨_,Ξ a,?_⟩;show _=_;rw[χ ŉ,Ĕ]
theorem ZvX{id tried:Int}(f:0<=tried/\tried<=12){T:Ŀ Ze}{k:Nat}(d:k<1000)(c:T.length<=1000)(n:Int)(t:Ze):(JL id tried (k:Int) T n t).wp λo=>o=.inl (((k+1:Nat):Int),T++[lk id tried t],n):=by
 unfold lk;have a:i64.wrap (tried+1)=tried+1:=wrap64 ŉ;have k3:∀u,(EE (k:Int) T n u).wp λo=>o=.inl (((k+1:Nat):Int),T++[u],n):=λu=>by refine⟨by rw[Ā];simp only[small,ė];omega,?_⟩;show _=_;rw[χ ŉ]
 by_cases e:t.id=id
 .rw[ą e];refine Cq.wp.yes e ?_;rw[a];exact k3 _
 rw[ā e];exact Cq.wp.no e (k3 _)
theorem ZzT{f:Ze->Ze}{T:Ŀ Ze}{k:Nat}(a:k<T.length):((T.take k).map f++T.drop k).length=T.length/\((T.take k).map f++T.drop k)[k]?=some T[k]/\((T.take k).map f++T.drop k).set k (f T[k])=(T.take (k+1)).map f++T.drop (k+1):=by
 have c:((T.take k).map f).length=k:=by rw[ć,Č];omega
 refine⟨by rw[Ā,c,ľ];omega,?_,?_⟩
 .rw[Ĥ ŉ,c,aaT,Ũ];exact Ą a
 rw[List.set_append,ā ŉ,c,aaT,ĭ a,aa3,č a,Ī,Đ];rfl
section
variable {B:Zd}{id:Int}{l:Ŀ Zj}{tried:Int}
theorem ya(h:(dE B.t id).2=false):gT B id l tried=(⟨[],0⟩,380):=by unfold gT;rw[if_pos h]
theorem sE(h:(dE B.t id).2=true)(a:tried<0\/12<tried):gT B id l tried=(⟨[],0⟩,1):=by unfold gT;rw[if_neg (by rw[h];decide),if_pos a]
theorem CS(h:(dE B.t id).2=true)(a:¬(tried<0\/12<tried))(h2:l.all (â (dE B.t id).1.k)=false):gT B id l tried=(⟨[],0⟩,1):=by unfold gT;rw[if_neg (by rw[h];decide),if_neg a,if_neg (by rw[h2];decide)]
theorem sF(h:(dE B.t id).2=true)(a:¬(tried<0\/12<tried))(h2:l.all (â (dE B.t id).1.k)=true):gT B id l tried=(⟨B.t.map (stepT (dE B.t id).1.k id l tried),B.next⟩,0):=by unfold gT;rw[if_neg (by rw[h];decide),if_neg a,if_pos h2]
end
theorem AX{B:Zd}(h:å B)(F:B.t.length<=1000)(id:Int){l:Ŀ Zj}(y:l.length<=1000)(x:∀c∈l,Ë c)(tried:Int):(xh B id l tried).Γ (gT B id l tried):=by
 refine⟨_,(A8 F id).1,?_⟩;cases d:(dE B.t id).2 with
 |false=>rw[ya d];exact Cq.wp.yes (by rw[d];rfl) rfl
 |true=>
  refine Cq.wp.no (by rw[d];decide) ?_;obtain⟨H,G⟩:=K4 d;have m:=(h.can _ H).ck.1.ok;by_cases q:tried<0
  .rw[sE d (Or.inl q)];exact Cq.wp.yes q rfl
  by_cases h2:12<tried
  .rw[sE d (Or.inr h2)];exact Cq.wp.no q (Cq.wp.yes h2 rfl)
  have j:¬(tried<0\/12<tried):=ŉ;have J:=CS (l:=l) d j;have K:=sF (l:=l) d j;generalize A:dE B.t id=own at *;refine Cq.wp.no q (Cq.wp.no h2 ?_);show(Cq.next _ _).wp _;have key:=UB (E:=((⟨[],0⟩:Zd),(1:Int))) l y (â own.1.k) ⟨[],0⟩ (step:=λD=>match D with|(a,i)=>if a<(l.length:Int)then(Cq.Λ l a λL=>Cq.bind (EJ own.1.k L) λu=>if(!u)=true then(Cq.ret (.inr (.inl ((Zd.mk [] 0),1))))else(Cq.ret (.inl (i64.wrap (a+1),i))))else(Cq.ret (.inr (.inr i)))) (λk g=>by
   refine Cq.wp.yes ŉ ⟨_,Ξ g,_,ZnZ m (x _ (ă g)),?_⟩;cases â own.1.k l[k]with
   |false=>exact Cq.wp.yes rfl rfl
   |true=>exact Cq.wp.nr rfl rfl) (Cq.wp.no ŉ rfl)
  refine Cq.fi key ?_;cases hr:l.all (â own.1.k)with
  |false=>rw[J hr];exact rfl
  |true=>
   rw[K hr];refine⟨_,zd m,_,ZsD ŉ,?_⟩;show(Cq.next _ _).wp _;refine Cq.Zo B.t.length (λk s=>s=((B.t.take k).map (stepT own.1.k id l tried)++B.t.drop k,(k:Int),B.next)) (λk s g t=>?_) (λs t=>?_) (by show _=_;simp)
   .subst t;obtain⟨C,I,n⟩:=ZzT (f:=stepT own.1.k id l tried) g;have v:=h.can _ (ă g);refine Cq.wp.yes ŉ ⟨B.t[k],⟨ŉ,by rw[Ĕ];exact I⟩,_,zd v.ck.1.ok,?_⟩;have e:stepT own.1.k id l tried B.t[k]=lk id tried (if ü B.t[k].k=ü own.1.k then l.foldl jy B.t[k]else B.t[k]):=rfl;rw[e]at n;by_cases p:ü B.t[k].k=ü own.1.k
    .rw[ą p]at n;refine Cq.wp.yes p (Cq.fi (Zx4 y x v.cq) ?_);refine Cq.mono (yI _ _ _ _ _ _) (λo r=>?_) (TR ŉ (by rw[C];exact g) ŉ B.next _);subst r;show _=_;rw[n]
    rw[ā p]at n;refine Cq.wp.no p ?_;refine Cq.mono (yI _ _ _ _ _ _) (λo r=>?_) (TR ŉ (by rw[C];exact g) ŉ B.next _);subst r;show _=_;rw[n]
   subst t;refine Cq.wp.no ŉ ?_;rw[Ħ,aaf,ę];exact rfl
theorem ZuX{B:Zd}(h:å B)(v:B.t.length<=1000)(id:Int){l:Ŀ Zj}(r:l.length<=1000)(q:∀c∈l,Ë c)(tried:Int):(KX B id l tried).Γ (gT B id l tried):=by
 refine⟨_,(A8 v id).2,?_⟩;cases d:(dE B.t id).2 with
 |false=>rw[ya d];exact Cq.wp.yes (by rw[d];rfl) rfl
 |true=>
  refine Cq.wp.no (by rw[d];decide) ?_;obtain⟨y,x⟩:=K4 d;have i:=(h.can _ y).ck.1.ok;by_cases j:tried<0
  .rw[sE d (Or.inl j)];exact Cq.wp.yes j rfl
  by_cases h2:12<tried
  .rw[sE d (Or.inr h2)];exact Cq.wp.no j (Cq.wp.yes h2 rfl)
  have g:¬(tried<0\/12<tried):=ŉ;have C:=CS (l:=l) d g;have D:=sF (l:=l) d g;generalize t:dE B.t id=own at *;refine Cq.wp.no j (Cq.wp.no h2 ?_);show(Cq.next _ _).wp _;have key:=UB (E:=((⟨[],0⟩:Zd),(1:Int))) l r (â own.1.k) ⟨[],0⟩ (step:=λu=>match u with|(a,f)=>if a<(l.length:Int)then(Cq.Λ l a λF=>Cq.bind (FJ own.1.k F) λn=>if(!n)=true then(Cq.ret (.inr (.inl ((Zd.mk [] 0),1))))else(Cq.ret (.inl (i64.wrap (a+1),f))))else(Cq.ret (.inr (.inr f)))) (λk e=>by
   refine Cq.wp.yes ŉ ⟨_,Ξ e,_,ZuZ i (q _ (ă e)),?_⟩;cases â own.1.k l[k]with
   |false=>exact Cq.wp.yes rfl rfl
   |true=>exact Cq.wp.nr rfl rfl) (Cq.wp.no ŉ rfl)
  refine Cq.fi key ?_;cases hr:l.all (â own.1.k)with
  |false=>rw[C hr];exact rfl
  |true=>
   rw[D hr];show(Cq.next _ _).wp _;refine Cq.Zo B.t.length (λk s=>s=((k:Int),(B.t.take k).map (stepT own.1.k id l tried),B.next)) (λk s e m=>?_) (λs m=>?_) (by show _=_;simp)
   .subst m;have p:=h.can _ (ă e);refine Cq.wp.yes ŉ ⟨_,Ξ e,Cq.fi (ZvZ (own:=own.1) r q p.cq p.ck.1.ok.pj i.pj own.2) ?_⟩;refine Cq.mono (JL _ _ _ _ _ _) (λo A=>?_) (ZvX ŉ ŉ (by rw[ć,Č];omega) B.next _);subst A;show _=_;rw[č e,Ī];rfl
   subst m;refine Cq.wp.no ŉ ?_;rw[Ħ];exact rfl
end Go.EL

namespace Go.EL
open Go.IntKind (i8 i16 i32 i64 u8 u16 u32 u64)
open Go Go.RowKit
theorem ZvR{l:Ŀ Zu}(h:∀y∈l,ja y):∃m:Ŀ Ù,(Lz l 2 2 3 6).Γ m/\m.length<=6/\∀p∈m,Β p:=by
 refine⟨(l.take 6).map λy=>iE y 2 2 3,?_,by rw[ć,Č];omega,λp hp=>?_⟩
 .have a:(QT ((l.take (min l.length 6)).map λy=>iE y 2 2 3)).Γ ((l.take 6).map λy=>iE y 2 2 3):=by
   have e:l.take (min l.length 6)=l.take 6:=by
    by_cases f:l.length<=6
    .rw[Ž f,ě (ĉ _),ě f]
    rw[Nat.min_eq_right ŉ]
   rw[e];exact rfl
  refine Cq.Zo (min l.length 6) (λk s=>s=((l.take k).map (λy=>iE y 2 2 3),(k:Int))) (λk s j g=>?_) (λs g=>?_) rfl
  .subst g;have c:k<l.length:=ŉ;refine Cq.wp.yes ŉ (Cq.wp.yes ŉ ⟨_,Ξ c,_,Lw (h _ (ă c)) (n:=2) ĳ ĳ ĳ (k:=3) ĳ,?_,?_⟩)
   .simp only[Ā,ć,Č,ė,small];omega
   show _=_;rw[χ ŉ,č c,Ī];rfl
  subst g;by_cases f:l.length<=6
  .exact Cq.wp.no ŉ a
  exact Cq.wp.yes ŉ (Cq.wp.no ŉ a)
 obtain⟨y,i,rfl⟩:=Ğ.1 hp;exact(LO (h y (Ŝ i)) (n:=2) ĳ (d:=2) ĳ ĳ (k:=3) ĳ).1
def iq(l:Ŀ Ù)(k:Nat):Ù:=if h:0<l.length then l[k % l.length]'(x9 _ h)else[]
theorem Tt{l:Ŀ Ù}(h:∀p∈l,Β p)(k:Nat):Β (iq l k):=by
 unfold iq;split
 .exact h _ (ă _)
 exact Β.of ĳ
theorem Uj(a b:Nat):Int.tmod (a:Int) (b:Int)=((a % b:Nat):Int):=by rw[ŕ ŉ];rfl
theorem Tu{l:Ŀ Ù}(p:l.length<=6)(k n:Nat)(m:k<=2)(q:n<=3):(xC l (k:Int) (n:Int)).Γ ((List.range n).map λi=>iq l (k+i)):=by
 show(Cq.next _ _).wp _;refine Cq.Zo n (λj s=>s=((List.range j).map (λi=>iq l (k+i)),(j:Int))) (λj s h d=>?_) (λs d=>?_) rfl
 .subst d;have a:∀x:Ù,((List.range j).map (λi=>iq l (k+i))++[x]).length<=small:=λx=>by simp only[Ā,ć,Ż,ė,small];omega
  have next:∀x:Ù,x=iq l (k+j)->((List.range j).map (λi=>iq l (k+i))++[x],i64.wrap ((j:Int)+1))=((List.range (j+1)).map (λi=>iq l (k+i)),((j+1:Nat):Int)):=λx f=>by rw[χ ŉ,aak,Ī,f];rfl
  refine Cq.wp.yes ŉ ?_;by_cases g:l.length=0
  .refine Cq.wp.yes ŉ ⟨a _,next _ ?_⟩;unfold iq;rw[dif_neg ŉ]
  have c:(k+j) % l.length<l.length:=x9 _ ŉ;have e:Int.tmod (i64.wrap ((k:Int)+(j:Int))) (l.length:Int)=(((k+j) % l.length:Nat):Int):=by rw[wrap64 ŉ,<-Uj];congr 1
  refine Cq.wp.no ŉ ⟨ŉ,_,by rw[e];exact Ξ c,a _,next _ ?_⟩;unfold iq;rw[ŷ ŉ]
 subst d;exact Cq.wp.no ŉ rfl
theorem Zyk{l:Ŀ Ù}(h:∀p∈l,Β p)(k n:Nat)(a:n<=3):rI ((List.range n).map λi=>iq l (k+i)):=
 ⟨by rw[ć,Ż];exact a,λp hp=>by obtain⟨i,_,rfl⟩:=Ğ.1 hp;exact Tt h _⟩
def eW(v:Ŀ Int)(k:Nat):Int:=(v[k % v.length]?).getD 0
theorem y7{v:Ŀ Int}(h:∀x∈v,gQ x)(k:Nat):gQ (eW v k):=by
 unfold eW;cases e:v[k % v.length]? with
 |none=>show gQ 0;decide
 |some x=>exact h x (ń e)
theorem vz{v:Ŀ Int}(h:∀x∈v,gQ x)(k:Nat):(ua v (k:Int)).Γ (eW v k):=by
 by_cases c:v.length=0
 .refine Cq.wp.yes ŉ ?_;show _=_;unfold eW;rw[ł ŉ];rfl
 have a:k % v.length<v.length:=x9 _ ŉ;refine Cq.wp.no ŉ ⟨ŉ,_,by rw[Uj];exact Ξ a,?_⟩;show _=_;have:=h _ (ă a);unfold eW;rw[Ą a,wrap64 ŉ];rfl
def n7(y:Int):Int:=i64.wrap (BitVec.ofInt i64.bits y &&& BitVec.ofInt i64.bits 7).toNat
def n3(y:Int):Int:=i64.wrap (BitVec.ofInt i64.bits (n7 y) &&& BitVec.ofInt i64.bits 3).toNat
def n15(y:Int):Int:=i64.wrap (BitVec.ofInt i64.bits y &&& BitVec.ofInt i64.bits 15).toNat
def wy(y:Int):Int:=i64.wrap ((Int.tmod (i64.wrap (BitVec.ofInt i64.bits y &&& BitVec.ofInt i64.bits 127).toNat) 3)-1)
structure rM (y:Int):Prop where
 h7:0<=n7 y/\n7 y<=7
 h3:0<=n3 y/\n3 y<=3
 oM:0<=n15 y/\n15 y<=15
 sg:-1<=wy y/\wy y<=1
 w8:i8.wrap (n7 y)=n7 y/\i8.wrap y=y
 dm:i64.wrap (n3 y-1)=n3 y-1
 pt:0<=i64.wrap (Int.tdiv (n7 y) 2)/\i64.wrap (Int.tdiv (n7 y) 2)<=i64.wrap (n7 y-i64.wrap (Int.tdiv (n7 y) 3))/\i64.wrap (n7 y-i64.wrap (Int.tdiv (n7 y) 3))<=n7 y
def s6(y:Int):Bool:=decide (0<=n7 y/\n7 y<=7)&&decide (0<=n3 y/\n3 y<=3)&&decide (0<=n15 y/\n15 y<=15)&&decide (-1<=wy y/\wy y<=1)&&decide (i8.wrap (n7 y)=n7 y/\i8.wrap y=y)&&decide (i64.wrap (n3 y-1)=n3 y-1)&&decide (0<=i64.wrap (Int.tdiv (n7 y) 2)/\i64.wrap (Int.tdiv (n7 y) 2)<=i64.wrap (n7 y-i64.wrap (Int.tdiv (n7 y) 3))/\i64.wrap (n7 y-i64.wrap (Int.tdiv (n7 y) 3))<=n7 y)
theorem Zxm:ã (-128) 127 s6=true:=by decide +kernel
theorem AT{y:Int}(h:gQ y):rM y:=by have:=Zq Zxm h.1 h.2;unfold s6 at this;simp only[Ĉ,Ę]at this;obtain⟨⟨⟨⟨⟨⟨a,b⟩,c⟩,d⟩,e⟩,f⟩,g⟩:=this;exact⟨a,b,c,d,e,f,g⟩
def ml(v:Ŀ Int)(k:Nat):Ŀ Zl:=nb (eW v k) (eW v (k+1)) (n7 (eW v k))
theorem LJ{v:Ŀ Int}(h:∀x∈v,gQ x)(k:Nat)(p:k<=3):(Mh v (k:Int)).Γ (ml v k)/\nL (ml v k):=by
 have p0:=y7 h k;have p1:=y7 h (k+1);have a:=AT p0;have j:=AT p1;refine⟨?_,_,_,_,p0,p1,a.h7,rfl⟩;have l:nI 0=(0,1):=by decide +kernel
 have m:oN 0 0=(0,1):=by decide +kernel
 have w1:(ZX 0).Γ (Ν (nI 0)):=by rw[l];exact(xL (n:=0) ĳ).1
 have w2:(ZX 0).Γ (Ν (oN 0 0)):=by rw[m];exact(xL (n:=0) ĳ).1
 have first:(RR (0,List.replicate 8 (Zl.mk (Zf.mk (Zg.mk false []) (Zg.mk false [])) (Zf.mk (Zg.mk false []) (Zg.mk false []))))).Γ (List.replicate 8 (l9 0 0)):=by
  iterate 8
   refine Cq.Zt (Cq.wp.yes ĳ ⟨_,w1,_,w2,_,⟨ĳ,rfl⟩,?_⟩)
   show(Cq.loop _ _).wp _
  exact Cq.Zt (Cq.wp.no ĳ rfl)
 refine Cq.fi first ?_
 show(Cq.next _ _).wp _;have d:=ZwL a.h7;have e:i64.wrap ((k:Int)+0)=(k:Int):=by rw[wrap64 ŉ];omega
 have f:∀i:Nat,i<=1->i64.wrap ((k:Int)+(i:Int))=((k+i:Nat):Int):=λi hi=>by rw[wrap64 ŉ];rfl
 have c:∀y,rM y->i8.wrap (i64.wrap (BitVec.ofInt i64.bits y &&& BitVec.ofInt i64.bits 7).toNat)=n7 y:=λy s=>s.w8.1;have g:(RQ v (k:Int) (0,List.replicate 8 (l9 0 0))).Γ (ml v k):=by refine Cq.Zt (Cq.wp.yes ĳ ⟨_,by rw[e];exact vz h k,_,by rw[a.w8.2];exact U5 p0,_,vz h k,_,by rw[c _ a];exact d,_,U2 p0 a.h7,_,⟨ĳ,rfl⟩,?_⟩);show(Cq.loop _ _).wp _;refine Cq.Zt (Cq.wp.yes ĳ ⟨_,by have:=f 1 ĳ;rw[show((1:Nat):Int)=i64.wrap (0+1)from rfl]at this;rw[this];exact vz h (k+1),_,by rw[j.w8.2];exact U5 p1,_,vz h k,_,by rw[c _ a];exact d,_,U2 p1 a.h7,_,⟨ĳ,rfl⟩,?_⟩);show(Cq.loop _ _).wp _;exact Cq.Zt (Cq.wp.no ĳ rfl)
 exact g
end Go.EL

namespace Go.EL
open Go.IntKind (i8 i16 i32 i64 u8 u16 u32 u64)
open Go Go.RowKit
structure jH (x:ZM):Prop where
 kind:0<=x.kind/\x.kind<=255
 l:∀y∈x.l,ja y
 v:∀z∈x.v,gQ z
theorem RY{v:Ŀ Int}(h:∀z∈v,gQ z){N:Nat}(a:N<=3):kn ((List.range N).map (ml v)):=
 ⟨by rw[ć,Ż];exact a,λb c=>by
  obtain⟨i,hi,rfl⟩:=Ğ.1 c;exact(LJ h i (by have:=ĺ.1 hi;omega)).2⟩
theorem ZvL{v:Ŀ Int}(h:∀z∈v,gQ z){N:Nat}(a:N<=3):ly ((List.range N).map λi=>wy (eW v i)):=
 ⟨by rw[ć,Ż];exact a,λb c=>by
  obtain⟨i,_,rfl⟩:=Ğ.1 c;exact(AT (y7 h i)).sg⟩
theorem ZwX{x:ZM}(c:jH x)(p:Ù){y:Int}{N:Nat}(f:n3 y=(N:Int))(d:N<=3):(Jn x p y (0,7,[],0,0,0,[],[],[],[])).Γ (7,[],0,0,0,[],[],[],(List.range N).map (ml x.v)):=by
 refine Cq.Zo N (λk s=>s=((k:Int),7,[],0,0,0,[],[],[],(List.range k).map (ml x.v))) (λk s e a=>?_) (λs a=>?_) rfl
 .subst a;refine Cq.wp.yes (show(k:Int)<n3 y by omega) ⟨_,(LJ c.v k ŉ).1,?_,Cq.wp.no ĳ ?_⟩
  .simp only[Ā,ć,Ż,ė,small];omega
  show _=_;rw[χ ŉ,aak,Ī];rfl
 subst a;exact Cq.wp.no (show ¬(N:Int)<n3 y by omega) rfl
theorem ZwY{x:ZM}(c:jH x)(p:Ù){y:Int}{N:Nat}(f:n3 y=(N:Int))(d:N<=3):(Jn x p y (0,8,[],0,0,0,[],[],[],[])).Γ (8,if N=0 then[]else p,0,0,0,[],[],(List.range N).map (λi=>wy (eW x.v i)),(List.range N).map (ml x.v)):=by
 refine Cq.Zo N (λk s=>s=((k:Int),8,if k=0 then[]else p,0,0,0,[],[],(List.range k).map (λi=>wy (eW x.v i)),(List.range k).map (ml x.v))) (λk s e a=>?_) (λs a=>?_) rfl
 .subst a;refine Cq.wp.yes (show(k:Int)<n3 y by omega) ⟨_,(LJ c.v k ŉ).1,?_,Cq.wp.yes rfl ⟨_,vz c.v k,?_,?_⟩⟩
  .simp only[Ā,ć,Ż,ė,small];omega
  .simp only[Ā,ć,Ż,ė,small];omega
  show _=_;rw[χ ŉ,aak,Ī,Ī,ā (Nat.succ_ne_zero k)];rfl
 subst a;exact Cq.wp.no (show ¬(N:Int)<n3 y by omega) rfl
theorem Zpd{x:ZM}(d:jH x):∃c,(Eb x).Γ c/\Ë c:=by
 obtain⟨m,B,t,v⟩:=ZvR d.l;have s:=y7 d.v 1;have f:=AT s;have k:(ua x.v 1).Γ (eW x.v 1):=vz d.v 1;generalize eW x.v 1=y at s f k;have j:(xC m 2 1).Γ [iq m 2]:=Tu t 2 1 ĳ ĳ;have hp:=Tt v 2;generalize iq m 2=p at j hp;obtain⟨N,n⟩:∃N:Nat,n3 y=(N:Int):=⟨(n3 y).toNat,by have:=f.h3;omega⟩;have a:N<=3:=by have:=f.h3;omega
 have g:(xC m 1 (n3 y)).Γ ((List.range N).map λi=>iq m (1+i)):=by rw[n];exact Tu t 1 N ĳ a
 have l:=Zyk v 1 N a;have E:1<=i64.wrap (1+(i64.wrap (Int.tmod x.kind 13)))/\i64.wrap (1+(i64.wrap (Int.tmod x.kind 13)))<=13:=by have:=d.kind;have e:Int.tmod x.kind 13=x.kind % 13:=ŕ this.1;rw[e,wrap64 (x:=x.kind % 13) ŉ,wrap64 ŉ];omega
 have start:∀c,(if(i64.wrap (1+(i64.wrap (Int.tmod x.kind 13))))=1 then(wZ x m p y (decide ((i64.wrap (1+(i64.wrap (Int.tmod x.kind 13))))=1)))else(if(i64.wrap (1+(i64.wrap (Int.tmod x.kind 13))))=2 then(wZ x m p y (decide ((i64.wrap (1+(i64.wrap (Int.tmod x.kind 13))))=2)))else(wZ x m p y (decide ((i64.wrap (1+(i64.wrap (Int.tmod x.kind 13))))=10))))).Γ c->(Eb x).Γ c:=
  λc h=>⟨m,B,_,j,p,⟨ĳ,rfl⟩,y,k,h⟩
 rcases (by omega:i64.wrap (1+(i64.wrap (Int.tmod x.kind 13)))=1\/i64.wrap (1+(i64.wrap (Int.tmod x.kind 13)))=2\/i64.wrap (1+(i64.wrap (Int.tmod x.kind 13)))=3\/i64.wrap (1+(i64.wrap (Int.tmod x.kind 13)))=4\/i64.wrap (1+(i64.wrap (Int.tmod x.kind 13)))=5\/i64.wrap (1+(i64.wrap (Int.tmod x.kind 13)))=6\/i64.wrap (1+(i64.wrap (Int.tmod x.kind 13)))=7\/i64.wrap (1+(i64.wrap (Int.tmod x.kind 13)))=8\/i64.wrap (1+(i64.wrap (Int.tmod x.kind 13)))=9\/i64.wrap (1+(i64.wrap (Int.tmod x.kind 13)))=10\/i64.wrap (1+(i64.wrap (Int.tmod x.kind 13)))=11\/i64.wrap (1+(i64.wrap (Int.tmod x.kind 13)))=12\/i64.wrap (1+(i64.wrap (Int.tmod x.kind 13)))=13)with e|e|e|e|e|e|e|e|e|e|e|e|e
 .exact⟨⟨1,p,0,0,0,[],[],[],[]⟩,start _ (Cq.wp.yes e (Cq.wp.yes (Ă e) (by show _=_;rw[e]))),.hN 1 p ĳ hp⟩
 .exact⟨⟨2,p,0,0,0,[],[],[],[]⟩,start _ (Cq.wp.no (by rw[e];decide) (Cq.wp.yes e (Cq.wp.yes (Ă e) (by show _=_;rw[e])))),.hN 2 p ĳ hp⟩
 .exact⟨⟨3,[],0,0,0,[],[],[],[]⟩,start _ (Cq.wp.no (by rw[e];decide) (Cq.wp.no (by rw[e];decide) (Cq.wp.no (by rw[e];decide) (Cq.wp.no (by rw[e];decide) (Cq.wp.no (by rw[e];decide) (Cq.wp.no (by rw[e];decide) (Cq.wp.no (by rw[e];decide) (Cq.wp.no (by rw[e];decide) (Cq.wp.no (by rw[e];decide) (Cq.wp.no (by rw[e];decide) (Cq.wp.no (by rw[e];decide) ((by show _=_;rw[e]))))))))))))),.nil 3 ĳ⟩
 .have h2:=y7 d.v 2;have C:(xB (u8.wrap (eW x.v 2))).Γ (lW (u8.wrap (eW x.v 2)).toNat):=by
   obtain⟨u,r⟩:∃u:Nat,u8.wrap (eW x.v 2)=(u:Int):=⟨((eW x.v 2) % 256).toNat,by show(eW x.v 2) % 256=_;omega⟩;have D:(u:Int)<=255:=by rw[<-r];show(eW x.v 2) % 256<=255;omega
   rw[r];exact TN ŉ
  exact⟨⟨4,[],0,0,0,_,_,[],[]⟩,start _ (Cq.wp.no (by rw[e];decide) (Cq.wp.no (by rw[e];decide) (Cq.wp.no (by rw[e];decide) (Cq.wp.yes e ⟨_,vz d.v 2,_,C,_,g,(by show _=_;rw[e])⟩)))),.GW _ _ Uf l⟩
 .have A:=(AT (y7 d.v 3)).oM;exact⟨⟨5,[],n15 (eW x.v 3),n3 y-1,0,[],[],[],[]⟩,start _ (Cq.wp.no (by rw[e];decide) (Cq.wp.no (by rw[e];decide) (Cq.wp.no (by rw[e];decide) (Cq.wp.no (by rw[e];decide) (Cq.wp.yes e ⟨_,vz d.v 3,by show Zj.mk _ _ _ (i64.wrap (n3 y-1)) _ _ _ _ _=_;rw[e,f.dm];rfl⟩))))),.BU _ _ A (by have:=f.h3;omega)⟩
 .exact⟨⟨6,[],n7 y,i64.wrap (n7 y-i64.wrap (Int.tdiv (n7 y) 3)),i64.wrap (Int.tdiv (n7 y) 2),[],[],[],[]⟩,start _ (Cq.wp.no (by rw[e];decide) (Cq.wp.no (by rw[e];decide) (Cq.wp.no (by rw[e];decide) (Cq.wp.no (by rw[e];decide) (Cq.wp.no (by rw[e];decide) (Cq.wp.yes e (by show _=_;rw[e];rfl))))))),.HM _ _ _ ⟨f.pt.1,f.pt.2.1,f.pt.2.2,f.h7.2⟩⟩
 .have h7:=ZwX d p n a;rw[<-e]at h7;exact⟨⟨7,[],0,0,0,[],[],[],(List.range N).map (ml x.v)⟩,start _ (Cq.wp.no (by rw[e];decide) (Cq.wp.no (by rw[e];decide) (Cq.wp.no (by rw[e];decide) (Cq.wp.no (by rw[e];decide) (Cq.wp.no (by rw[e];decide) (Cq.wp.no (by rw[e];decide) (Cq.wp.yes e (Cq.wp.yes (Ă e) (Cq.fi h7 (Cq.wp.no (by rw[e];decide) (by show _=_;rw[e]))))))))))),.box _ (RY d.v a)⟩
 .have q:=ZwY d p n a;rw[<-e]at q;exact⟨⟨8,p,0,0,0,[],[],(List.range N).map (λi=>wy (eW x.v i)),(List.range N).map (ml x.v)⟩,start _ (Cq.wp.no (by rw[e];decide) (Cq.wp.no (by rw[e];decide) (Cq.wp.no (by rw[e];decide) (Cq.wp.no (by rw[e];decide) (Cq.wp.no (by rw[e];decide) (Cq.wp.no (by rw[e];decide) (Cq.wp.no (by rw[e];decide) (Cq.wp.yes (Ă e) (Cq.fi q (Cq.wp.yes e (by show _=_;rw[e]))))))))))),.sig _ _ _ hp (ZvL d.v a) (by rw[ć,ć]) (RY d.v a)⟩
 .exact⟨⟨9,[],0,0,0,[],[],[],[]⟩,start _ (Cq.wp.no (by rw[e];decide) (Cq.wp.no (by rw[e];decide) (Cq.wp.no (by rw[e];decide) (Cq.wp.no (by rw[e];decide) (Cq.wp.no (by rw[e];decide) (Cq.wp.no (by rw[e];decide) (Cq.wp.no (by rw[e];decide) (Cq.wp.no (by rw[e];decide) (Cq.wp.no (by rw[e];decide) (Cq.wp.no (by rw[e];decide) (Cq.wp.no (by rw[e];decide) ((by show _=_;rw[e]))))))))))))),.nil 9 ĳ⟩
 .exact⟨⟨10,p,0,0,0,[],[],[],[]⟩,start _ (Cq.wp.no (by rw[e];decide) (Cq.wp.no (by rw[e];decide) (Cq.wp.yes (Ă e) (by show _=_;rw[e])))),.hN 10 p ĳ hp⟩
 .exact⟨⟨11,[],0,0,0,[],_,[],[]⟩,start _ (Cq.wp.no (by rw[e];decide) (Cq.wp.no (by rw[e];decide) (Cq.wp.no (by rw[e];decide) (Cq.wp.no (by rw[e];decide) (Cq.wp.no (by rw[e];decide) (Cq.wp.no (by rw[e];decide) (Cq.wp.no (by rw[e];decide) (Cq.wp.no (by rw[e];decide) (Cq.wp.yes e ⟨_,g,(by show _=_;rw[e])⟩))))))))),.u4 _ l⟩
 .exact⟨⟨12,[],n7 y,0,0,[],[],[],[]⟩,start _ (Cq.wp.no (by rw[e];decide) (Cq.wp.no (by rw[e];decide) (Cq.wp.no (by rw[e];decide) (Cq.wp.no (by rw[e];decide) (Cq.wp.no (by rw[e];decide) (Cq.wp.no (by rw[e];decide) (Cq.wp.no (by rw[e];decide) (Cq.wp.no (by rw[e];decide) (Cq.wp.no (by rw[e];decide) (Cq.wp.yes e (Cq.wp.yes e (by show _=_;rw[e];rfl)))))))))))),.zF 12 _ ĳ f.h7⟩
 exact⟨⟨13,[],n7 y,0,0,[],[],[],[]⟩,start _ (Cq.wp.no (by rw[e];decide) (Cq.wp.no (by rw[e];decide) (Cq.wp.no (by rw[e];decide) (Cq.wp.no (by rw[e];decide) (Cq.wp.no (by rw[e];decide) (Cq.wp.no (by rw[e];decide) (Cq.wp.no (by rw[e];decide) (Cq.wp.no (by rw[e];decide) (Cq.wp.no (by rw[e];decide) (Cq.wp.no (by rw[e];decide) (Cq.wp.yes e (by show _=_;rw[e];rfl)))))))))))),.zF 13 _ ĳ f.h7⟩
theorem ZuH{x:Zs}(s:∀y∈x.l,jH y):∃l,(AP x).Γ l/\l.length<=4/\∀c∈l,Ë c:=by
 have key:∀(m i:Nat),m+i=min x.l.length 4->∀l:Ŀ Zj,l.length=i->(∀c∈l,Ë c)->∃r,(Ql x (l,(i:Int))).Γ r/\r.length<=4/\∀c∈r,Ë c:=by
  intro m;induction m with
  |zero=>
   intro i hi l p h2;refine⟨l,Cq.Zt ?_,ŉ,h2⟩;by_cases h:i<x.l.length
   .exact Cq.wp.yes ŉ (Cq.wp.no ŉ rfl)
   exact Cq.wp.no ŉ rfl
  |succ m t=>
   intro i hi l p h2;have e:i<x.l.length:=ŉ;obtain⟨c,k,n⟩:=Zpd (s _ (ă e));obtain⟨r,f,g,j⟩:=t (i+1) ŉ (l++[c]) (by rw[Ā];simp;omega) (λd a=>by
    rcases Ĩ.1 a with a|a
    .exact h2 d a
    rw[Ē.1 a];exact n)
   refine⟨r,Cq.Zt (Cq.wp.yes ŉ (Cq.wp.yes ŉ ⟨_,Ξ e,c,k,?_,?_⟩)),g,j⟩
   .simp only[Ā,ė,small];omega
   show(Cq.loop _ _).wp _;rw[χ ŉ];exact f
 obtain⟨r,f,g,j⟩:=key (min x.l.length 4) 0 ŉ [] rfl (λc q=>absurd q ĝ);exact⟨r,Cq.fi f rfl,g,j⟩
end Go.EL

namespace Go.EL
open Go.IntKind (i8 i16 i32 i64 u8 u16 u32 u64)
open Go Go.RowKit
theorem å.map{B:Zd}(h:å B){f:Ze->Ze}(hi:∀t,(f t).id=t.id)(a:∀t,(f t).k=t.k)(c:∀t,(f t).q=t.q)(l:∀t∈B.t,(0<=(f t).ψ/\(f t).ψ<=13)/\0<=(f t).low/\-1<=(f t).high):å ⟨B.t.map f,B.next⟩ where
 can t g:=by obtain⟨u,k,rfl⟩:=Ğ.1 g;rw[a,c];exact h.can u k
 ids i kr:=by
  have h2:i<B.t.length:=by simpa using kr
  show(B.t.map f)[i].id=_;rw[Ū,hi];exact h.ids i h2
 next:=by show B.next=((B.t.map f).length:Int)+1;rw[ć];exact h.next
 Ú:=by rw[Ź];refine h.Ú.imp λ{s t} e=>?_;show gL (f s).k (f s).q≠gL (f t).k (f t).q;rw[a,c,a,c];exact e
 ls i kr x d:=by
  have h2:i<B.t.length:=by simpa using kr
  have d:x∈ó ((B.t.map f)[i]'(by simpa using h2)).q.kind:=d;rw[Ū,c]at d;obtain⟨j,j2,j3,j4⟩:=h.ls i h2 x d;refine⟨j,by show j<(B.t.map f).length;rw[ć];exact j2,j3,?_⟩;show gL ((B.t.map f)[j]'(by simpa using j2)).k ((B.t.map f)[j]'(by simpa using j2)).q=gL ((B.t.map f)[i]'(by simpa using h2)).k x;rw[Ū,Ū,a,c,a];exact j4
 num t g:=by obtain⟨u,k,rfl⟩:=Ğ.1 g;exact l u k
theorem ZzR(l:Ŀ Zj){t:Ze}(h:0<=t.low/\-1<=t.high):0<=(l.foldl jy t).low/\-1<=(l.foldl jy t).high:=by
 induction l generalizing t with
 |nil=>exact h
 |cons c l a=>
  refine a ⟨?_,?_⟩
  .show 0<=CQ _ _;unfold CQ;split<;>omega
  show -1<=qS _ _;unfold qS;repeat' split
  all_goals omega
theorem AU(k:Zc)(id:Int)(l:Ŀ Zj)(tried:Int)(t:Ze):(stepT k id l tried t).id=t.id/\(stepT k id l tried t).k=t.k/\(stepT k id l tried t).q=t.q:=by
 obtain⟨a,h2,h3,_⟩:=Bk l t;unfold stepT lk;by_cases e:ü t.k=ü k
 .rw[ą e];split
  .exact⟨a,h2,h3⟩
  exact⟨a,h2,h3⟩
 rw[ā e];split<;>exact⟨rfl,rfl,rfl⟩
theorem ZyI{k:Zc}{id:Int}{l:Ŀ Zj}{tried:Int}(c:0<=tried/\tried<=12){t:Ze}(h:(0<=t.ψ/\t.ψ<=13)/\0<=t.low/\-1<=t.high):(0<=(stepT k id l tried t).ψ/\(stepT k id l tried t).ψ<=13)/\0<=(stepT k id l tried t).low/\-1<=(stepT k id l tried t).high:=by
 have key:∀u:Ze,(0<=u.ψ/\u.ψ<=13)/\0<=u.low/\-1<=u.high->(0<=(lk id tried u).ψ/\(lk id tried u).ψ<=13)/\0<=(lk id tried u).low/\-1<=(lk id tried u).high:=λu a=>by
  unfold lk;split
  .refine⟨?_,a.2⟩;show 0<=(if u.ψ<tried+1 then tried+1 else u.ψ)/\(if u.ψ<tried+1 then tried+1 else u.ψ)<=13;split<;>omega
  exact a
 unfold stepT;refine key _ ?_;split
 .rw[(Bk l t).2.2.2];exact⟨h.1,ZzR l h.2⟩
 exact h
theorem SQ{B:Zd}(h:å B){id:Int}{l:Ŀ Zj}{tried:Int}(a:(gT B id l tried).2=0):å (gT B id l tried).1/\(gT B id l tried).1.t.length=B.t.length:=by
 unfold gT at a⊢;split at a
 .cases a
 split at a
 .cases a
 split at a
 .rw[ā ‹_›,ā ‹_›,ą ‹_›];exact⟨h.map (λt=>(AU _ _ _ _ t).1) (λt=>(AU _ _ _ _ t).2.1) (λt=>(AU _ _ _ _ t).2.2) λt c=>ZyI ŉ (h.num t c),ć _⟩
 cases a
structure iN (x:Zs):Prop where
 fT:0<=x.fT/\x.fT<=255
 c:ig x.c
 kind:0<=x.kind/\x.kind<=255
 p:ja x.p
 o:0<=x.o/\x.o<=255
 l:∀y∈x.l,jH y
structure rJ (x:Zs) (k:Zc) (q:Zb) (l:Ŀ Zj):Prop where
 core:(y3 x).Γ k
 asks:(yZ x k).Γ q
 nd:(AP x).Γ l
 k:dR k
 q:eY q
 len:l.length<=4
 l:∀c∈l,Ë c
theorem ZxS{x:Zs}(c:iN x){k:Zc}(h:dR k):∃q,(yZ x k).Γ q/\eY q:=by
 have s:=h.ok.n;have l:=h.n3;obtain⟨n,j⟩:∃n:Nat,k.n=(n:Int):=⟨k.n.toNat,ŉ⟩;have i:(if 3<k.n then 3 else k.n)=(n:Int):=by rw[ā ŉ,j]
 have a:∀p:Ù,Β p->∃q,(EH x ⟨i64.wrap (Int.tmod x.kind 12),p,[]⟩).Γ q/\eY q:=λp hp=>by
  by_cases e:i64.wrap (Int.tmod x.kind 12)=3
  .obtain⟨u,r⟩:∃u:Nat,x.o=(u:Int):=⟨x.o.toNat,by have:=c.o;omega⟩;have m:(xB x.o).Γ (lW u):=by rw[r];exact TN (by have:=c.o;omega)
   exact⟨⟨_,p,lW u⟩,Cq.wp.yes e ⟨_,m,rfl⟩,⟨hp,.inl Uf⟩⟩
  exact⟨_,Cq.wp.no e rfl,⟨hp,(eY.nil 0).o⟩⟩
 cases g:decide (i64.wrap (Int.tmod x.kind 12)=1\/i64.wrap (Int.tmod x.kind 12)=7\/i64.wrap (Int.tmod x.kind 12)=9)with
 |true=>
  obtain⟨q,f,h2⟩:=a _ (LO c.p (n:=n) ŉ (d:=2) ĳ ĳ (k:=3) ĳ).1;exact⟨q,⟨true,by rw[<-g];exact LG _,Cq.wp.yes rfl ⟨_,by rw[i];exact Lw c.p (n:=n) ŉ ĳ ĳ (k:=3) ĳ,f⟩⟩,h2⟩
 |false=>
  obtain⟨q,f,h2⟩:=a [] (Β.of ĳ);exact⟨q,⟨false,by rw[<-g];exact LG _,Cq.wp.nr rfl f⟩,h2⟩
theorem Zvc{x:Zs}(c:iN x):∃k,(y3 x).Γ k/\dR k:=by obtain⟨a,f⟩:=Zvo c.c;obtain⟨e,d⟩:=ZxY a ŉ;refine⟨_,⟨_,ZuJ c.c,_,ZuW a,rfl⟩,d,?_⟩;rw[e];show ph _<=3;have g:(iV x.c).vars.length=jm x.c:=Fz x.c;have:=Bu x.c;unfold ph;split<;>omega
theorem Tv{x:Zs}(a:iN x):∃k q l,rJ x k q l:=by obtain⟨k,c,k2⟩:=Zvc a;obtain⟨q,g,h⟩:=ZxS a k2;obtain⟨l,d,e,f⟩:=ZuH a.l;exact⟨k,q,l,c,g,d,k2,h,e,f⟩
def lN(B:Zd)(x:Zs)(k:Zc)(q:Zb)(l:Ŀ Zj):Zd×Int×Int:=
 if Int.tmod x.fT 2=0 then(if(fv B k q).2.2=0 then fv B k q else(B,0,(fv B k q).2.2))
 else(if(gT B x.id l x.tried).2=0 then((gT B x.id l x.tried).1,0,0)else(B,0,(gT B x.id l x.tried).2))
theorem ZxO{B:Zd}{k:Zc}{q:Zb}(h:¬(fv B k q).2.2=0):(fv B k q).2.1=0:=by
 unfold fv at h⊢;split at h
 .exact absurd rfl h
 rw[ā ‹_›]
theorem Zwf{B:Zd}(h:å B)(g:B.t.length<=90){x:Zs}{k:Zc}{q:Zb}{l:Ŀ Zj}(a:rJ x k q l):(RI B x).Γ (lN B x k q l)/\(LB B x).Γ (lN B x k q l):=by
 unfold lN;by_cases d:Int.tmod x.fT 2=0
 .rw[ą d];have a1:=xD h ŉ a.k a.q;have a2:=ZxL h ŉ a.k a.q;by_cases c:(fv B k q).2.2=0
  .rw[ą c];refine⟨Cq.wp.yes d ⟨_,a.core,_,a.asks,_,a1,Cq.wp.no (λe=>e c) rfl⟩,Cq.wp.yes d ⟨_,a.core,_,a.asks,_,a2,Cq.wp.no (λe=>e c) ?_⟩⟩;show _=_;have:fv B k q=((fv B k q).1,(fv B k q).2.1,0):=by rw[<-c]
   exact this.symm
  rw[ā c];refine⟨Cq.wp.yes d ⟨_,a.core,_,a.asks,_,a1,Cq.wp.yes c ?_⟩,Cq.wp.yes d ⟨_,a.core,_,a.asks,_,a2,Cq.wp.yes c rfl⟩⟩;show _=_;rw[ZxO c]
 rw[ā d];have f:=a.len;have a1:=AX h ŉ x.id ŉ a.l x.tried;have a2:=ZuX h ŉ x.id ŉ a.l x.tried;by_cases c:(gT B x.id l x.tried).2=0
 .rw[ą c];refine⟨Cq.wp.no d ⟨_,a.nd,_,a1,Cq.wp.no (λe=>e c) ?_⟩,Cq.wp.no d ⟨_,a.nd,_,a2,Cq.wp.no (λe=>e c) rfl⟩⟩;show _=_;rw[c]
 rw[ā c];exact⟨Cq.wp.no d ⟨_,a.nd,_,a1,Cq.wp.yes c rfl⟩,Cq.wp.no d ⟨_,a.nd,_,a2,Cq.wp.yes c rfl⟩⟩
theorem Fs{B:Zd}(h:å B){k:Zc}{q:Zb}(d:dR k)(e:eY q)(a:(fv B k q).2.2=0):Grown B (fv B k q).1 4:=by
 unfold fv at a⊢;split at a
 .rw[ą ‹_›];have c:=Gw (Æ q (Θ k).2).kind;exact(vw (n:=5) ŉ h (ic.of d e ‹_›)).1.up c
 cases a
theorem Zwe{B:Zd}(h:å B){x:Zs}{k:Zc}{q:Zb}{l:Ŀ Zj}(c:rJ x k q l):å (lN B x k q l).1/\B.t.length<=(lN B x k q l).1.t.length/\(lN B x k q l).1.t.length<=B.t.length+4:=by
 unfold lN;split
 .split
  .have a:=Fs h c.k c.q ‹_›;exact⟨a.ok,a.pre.length_le,a.len⟩
  exact⟨h,ĉ _,abo _ _⟩
 split
 .obtain⟨d,e⟩:=SQ h ‹_›;exact⟨d,aaS e.symm,by show(gT B x.id l x.tried).1.t.length<=_;omega⟩
 exact⟨h,ĉ _,abo _ _⟩
def jt:Zd:=⟨[],1⟩
theorem yW:å jt where
 can t a:=absurd a ĝ
 ids i hi:=absurd hi (ı _)
 next:=rfl
 Ú:=List.Pairwise.nil
 ls i hi:=absurd hi (ı _)
 num t a:=absurd a ĝ
theorem Zu6{l:Ŀ Zs}(h:∀x∈l,iN x):∃B,(LD l).Γ B/\å B/\B.t.length<=24:=by
 have key:∀(m i:Nat),m+i=min l.length 6->∀B,å B->B.t.length<=4*i->∃C,(Rk l ((i:Int),B)).Γ C/\å C/\C.t.length<=24:=by
  intro m;induction m with
  |zero=>
   intro i hi B d j;refine⟨B,Cq.Zt ?_,d,ŉ⟩;by_cases h:i<l.length
   .exact Cq.wp.yes ŉ (Cq.wp.no ŉ rfl)
   exact Cq.wp.no ŉ rfl
  |succ m n=>
   intro i hi B d j;have a:i<l.length:=ŉ;obtain⟨k,q,c,hp⟩:=Tv (h _ (ă a));obtain⟨d1,d2,d3⟩:=Zwe d hp;obtain⟨C,e,f,g⟩:=n (i+1) ŉ _ d1 ŉ;refine⟨C,Cq.Zt (Cq.wp.yes ŉ (Cq.wp.yes ŉ ⟨_,Ξ a,_,(Zwf d ŉ hp).2,?_⟩)),f,g⟩;show(Cq.loop _ _).wp _;rw[χ ŉ];exact e
 obtain⟨C,e,f,g⟩:=key (min l.length 6) 0 ŉ jt yW (ĉ _);exact⟨C,⟨jt,rfl,Cq.fi e rfl⟩,f,g⟩
end Go.EL

namespace Go.Proofs.YtepbagkffgddlaaGreat
open Go.IntKind (i8 i16 i32 i64 u8 u16 u32 u64)
open Go.Proofs.Tryz
open Go Go.EL Go.RowKit Go.Proofs
def sH(x:Zu):Prop:=(∀y∈x.t,∀i,(Lit.int .i8 (y i)).wf=true)
def ye(x:ZA):Prop:=((Lit.int .u8 x.n).wf=true)/\(∀y∈x.l,sH y)/\(∀y∈x.ik,(Lit.int .u8 y).wf=true)
def sG(x:ZM):Prop:=((Lit.int .u8 x.kind).wf=true)/\(∀y∈x.l,sH y)/\(∀y∈x.v,(Lit.int .i8 y).wf=true)
def C0(x:Zs):Prop:=((Lit.int .u8 x.fT).wf=true)/\(ye x.c)/\((Lit.int .u8 x.kind).wf=true)/\(sH x.p)/\((Lit.int .u8 x.o).wf=true)/\(∀y∈x.l,sG y)/\((Lit.int .i64 x.id).wf=true)/\((Lit.int .i64 x.tried).wf=true)
theorem nq(W:World):Ç prog W 37 ZN (sH):=by have h:=Ç.struct (W:=W) underlying37 İ (eO.last rfl İ (Ç.sl underlying35 İ ĳ (Ç.vec underlying197 underlying196 İ İ))) (λ(x:Zu)=>x.t) (λy=>⟨y⟩) (λ_=>rfl);exact h
theorem uS(W:World):Ç prog W 34 Kf (ye):=by have h:=Ç.struct (W:=W) underlying34 İ (eO.cons rfl İ (Ç.int underlying5) (eO.cons rfl İ (Ç.sl underlying31 İ ĳ (nq W)) (eO.last rfl İ (Ç.sl underlying32 İ ĳ (Ç.int underlying5))))) (λ(x:ZA)=>(x.n,x.l,x.ik)) (λy=>⟨y.1,y.2.1,y.2.2⟩) (λ_=>rfl);exact h
theorem sI(W:World):Ç prog W 160 tB (sG):=by have h:=Ç.struct (W:=W) underlying160 İ (eO.cons rfl İ (Ç.int underlying5) (eO.cons rfl İ (Ç.sl underlying31 İ ĳ (nq W)) (eO.last rfl İ (Ç.sl underlying158 İ ĳ (Ç.int underlying196))))) (λ(x:ZM)=>(x.kind,x.l,x.v)) (λy=>⟨y.1,y.2.1,y.2.2⟩) (λ_=>rfl);exact h
theorem qd(W:World):Ç prog W 40 yH (C0):=by have h:=Ç.struct (W:=W) underlying40 İ (eO.cons rfl İ (Ç.int underlying5) (eO.cons rfl İ (uS W) (eO.cons rfl İ (Ç.int underlying5) (eO.cons rfl İ (nq W) (eO.cons rfl İ (Ç.int underlying5) (eO.cons rfl İ (Ç.sl underlying38 İ ĳ (sI W)) (eO.cons rfl İ (Ç.int underlying3) (eO.last rfl İ (Ç.int underlying3))))))))) (λ(x:Zs)=>(x.fT,x.c,x.kind,x.p,x.o,x.l,x.id,x.tried)) (λy=>⟨y.1,y.2.1,y.2.2.1,y.2.2.2.1,y.2.2.2.2.1,y.2.2.2.2.2.1,y.2.2.2.2.2.2.1,y.2.2.2.2.2.2.2⟩) (λ_=>rfl);exact h
theorem Mw{x:Zu}(h:sH x):ja x:=λv a j=>wf_i8 (h v a j)
theorem Zyx{x:ZA}(h:ye x):ig x:=⟨wf_u8 h.1,λy c=>Mw (h.2.1 y c),λg a=>wf_u8 (h.2.2 g a)⟩
theorem Zyw{x:ZM}(h:sG x):jH x:=⟨wf_u8 h.1,λy c=>Mw (h.2.1 y c),λg a=>wf_i8 (h.2.2 g a)⟩
theorem UN{x:Zs}(h:C0 x):iN x:=⟨wf_u8 h.1,Zyx h.2.1,wf_u8 h.2.2.1,Mw h.2.2.2.1,wf_u8 h.2.2.2.2.1,λy a=>Zyw (h.2.2.2.2.2.1 y a)⟩
set_option maxRecDepth 100000 in
theorem Zw2{W:World}{base:Nat}{v:Value}{H:Type}{enc:TypeId×Value->H}{b:Nat}{d:DataW H}{ps:Ŀ MemPlace}(a:Value.okWide prog W .any base 40 v)(h:DataW.Trod enc prog W b (λ_=>true) true 40 v d ps):∃(x:Zs) (p:ŀ Addr) (c:Nat) (q:ŀ Addr) (e:Nat) (r:ŀ Addr) (f:Nat) (s:ŀ Addr) (g:Nat),v=.agg ([.int .u8 x.fT,.int .u8 x.c.n,.slice p x.c.l.length c,.slice q x.c.ik.length e,.int .u8 x.kind,.slice r x.p.t.length f,.int .u8 x.o,.slice s x.l.length g,.int .i64 x.id,.int .i64 x.tried]).toArray/\(Ζ ZN (gR W) (.slice p x.c.l.length c) x.c.l/\Ζ (Rp.int .u8) (gR W) (.slice q x.c.ik.length e) x.c.ik/\Ζ (Rp.vec .i8 5) (gR W) (.slice r x.p.t.length f) x.p.t/\Ζ tB (gR W) (.slice s x.l.length g) x.l)/\iN x:=by obtain⟨cs,x,rfl,h2,h3⟩:=ZtC underlying40 (qd W) a h;obtain⟨p,c,q,e,r,f,s,g,i,k2,k3,k,l⟩:=Qo (K:=λj u=>cs[j]?=some u) (ZxT h2);exact⟨x,p,c,q,e,r,f,s,g,by rw[ZxV h2 (by rfl) i],⟨k2,k3,k,l⟩,UN h3⟩
set_option maxRecDepth 100000 in
theorem Zvu{W:World}{base:Nat}{v:Value}{H:Type}{enc:TypeId×Value->H}{b:Nat}{d:DataW H}{ps:Ŀ MemPlace}(a:Value.okWide prog W .any base 22 v)(h:DataW.Trod enc prog W b (λ_=>true) true 22 v d ps):∃p cap l,v=.slice p (List.length l) cap/\Ζ yH (gR W) (.slice p l.length cap) l/\∀y∈l,iN y:=by obtain⟨p,cap,l,c,h2,h3⟩:=ZtB underlying22 İ ĳ (qd W) a h;exact⟨p,cap,l,c,h2,λy e=>UN (h3 y e)⟩
end Go.Proofs.YtepbagkffgddlaaGreat

