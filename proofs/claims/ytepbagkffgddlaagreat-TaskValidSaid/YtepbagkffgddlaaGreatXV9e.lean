/- The law TaskValid holds for every input: a part of its proof (fY the code does, plain models, and fY they return). No condition. -/
import Derived.Test.YtepbagkffgddlaaGreatXV9d
import Derived.Test.YtepbagkffgddlaaGreatXV9c
import Derived.Test.YtepbagkffgddlaaGreatXV9b
set_option linter.unusedVariables false
set_option linter.unusedSimpArgs false
namespace Go.EL
open Go.IntKind (i8 i16 i32 i64 u8 u16 u32 u64)
open Go Go.RowKit
theorem Ut:∀(f:Nat) (n:Int),(iI f n).length<=f+1
 |0,_=>by simp[iI]
 |f+1,n=>by
  unfold iI;split
  .have:=Ut f (u64.wrap (Int.tdiv n 128));rw[Ę];omega
  simp
theorem ri(n:Int):(fw n).length<=11:=Ut 10 n
theorem qB{n:Int}(a:0<=n):0<=Int.tdiv n 128/\Int.tdiv n 128=n / 128:=⟨Int.tdiv_nonneg a ĳ,abc a⟩
theorem TX:∀(f:Nat) (b:Ŀ Int) (n:Int),0<=n->n<128 ^ (f+1)->n<18446744073709551616->b.length+f+1<=1000000->(Fj (b,n)).wp λo=>(Fk o.1 o.2).ω (b++iI f n)
 |0,b,n,c,d,h2,g=>by refine Cq.Zt (Cq.wp.no ŉ ?_);show(Fk b n).ω _;refine⟨?_,rfl⟩;rw[Ā,ė];simp only[small];omega
 |f+1,b,n,c,d,h2,g=>by
  by_cases h:127<n
  .refine Cq.Zt (Cq.wp.yes h ⟨?_,?_⟩)
   .rw[Ā,ė];simp only[small];omega
   obtain⟨d0,d1⟩:=qB c;have a:n / 128<128 ^ (f+1):=Int.ediv_lt_of_lt_mul ĳ (by rw[<-Int.pow_succ];exact d);have i:u64.wrap (Int.tdiv n 128)=n / 128:=by rw[d1];exact qL ⟨ŉ,ŉ⟩
   show(Fj _).wp _;have j:=TX f (b++[u8.wrap (u8.wrap (Int.tmod n 128)+128)]) (u64.wrap (Int.tdiv n 128)) ŉ (by rw[i];exact a) ŉ (by rw[Ā,ė];omega);refine(Fj _).mono (λo e=>?_) j;rw[ď]at e;unfold iI;rw[ą (show 128<=n by omega)];exact e
  refine Cq.Zt (Cq.wp.no h ?_);show(Fk b n).ω _;unfold iI;rw[ā (show ¬128<=n by omega)];refine⟨?_,rfl⟩;rw[Ā,ė];simp only[small];omega
theorem OD:(128:Int) ^ (10+1)=151115727451828646838272:=ĳ
theorem vy{b:Ŀ Int}{n:Int}(h:0<=n/\n<18446744073709551616)(c:b.length<=900000):(uj b n).ω (b++fw n):=by have a:=OD;exact TX 10 b n h.1 ŉ h.2 ŉ
theorem xQ{n:Nat}(h:n<=1000000):u64.wrap (n:Int)=(n:Int):=qL ⟨ŉ,ŉ⟩
theorem Lu(d:Int):(fG d).length=4:=rfl
theorem ua{α:Type}{f:α->Ŀ Int}{K:Nat}:∀{l:Ŀ α},(∀x∈l,(f x).length<=K)->(l.flatMap f).length<=K*l.length
 |[],_=>Ċ _
 |x::l,h=>by have c:=h x ß;have h2:=ua (l:=l) (λy a=>h y (by simp[a]));rw[ś,Ā,Ę,Nat.mul_succ];omega
theorem FB{α:Type}(f:α->Ŀ Int)(l:Ŀ α){k:Nat}(a:k<l.length):(l.take (k+1)).flatMap f=(l.take k).flatMap f++f l[k]:=by rw[č a,Ž];simp
theorem Ma{a:Zg}(h:a.υ.length<=1):(ly a).length<=15:=by unfold ly;rw[Ā];have c:=ri (if a.neg=true then u64.wrap (u64.wrap (2*u64.wrap (a.υ.length:Int))+1)else u64.wrap (2*u64.wrap (a.υ.length:Int)));have h2:=ua (K:=4) (l:=a.υ) (f:=fG) (λx _=>aaX (Lu x));omega
theorem R9{b:Ŀ Int}{a:Zg}(h:a.υ.length<=1)(m:b.length<=800000):(A6 b a).ω (b++ly a):=by
 have key:∀s:Int,0<=s->s<=1->(EK b a s).ω (b++(fw (u64.wrap (u64.wrap (u64.wrap (a.υ.length:Int)*2)+s))++a.υ.flatMap fG)):=λs p q=>by
  have e:=xQ (n:=a.υ.length) ŉ;have c:u64.wrap ((a.υ.length:Int)*2)=(a.υ.length:Int)*2:=qL ⟨ŉ,ŉ⟩;have j:u64.wrap ((a.υ.length:Int)*2+s)=(a.υ.length:Int)*2+s:=qL ⟨ŉ,ŉ⟩;refine⟨_,vy (by rw[e,c,j];omega) ŉ,?_⟩;have d:=ri (u64.wrap (u64.wrap (u64.wrap (a.υ.length:Int)*2)+s));generalize fw (u64.wrap (u64.wrap (u64.wrap (a.υ.length:Int)*2)+s))=N at *;refine Cq.Zn a.υ.length (λk st=>st=(b++N++(a.υ.take k).flatMap fG,(k:Int))) (λk st i g=>?_) (λst g=>?_) (by show _=_;simp)
  .subst g;refine Cq.wp.yes ŉ ⟨_,Λ i,?_,?_⟩
   .have:=ua (K:=4) (l:=a.υ.take k) (f:=fG) (λx _=>aaX (Lu x));rw[Č]at this;simp only[Ā,Ę,ĺ,small];omega
   show _=_;rw[χ ŉ,FB fG a.υ i,<-ď];rfl
  subst g;refine Cq.wp.no ŉ ?_;rw[ě (Ċ _)];show _=_;rw[ď]
 unfold A6;have e:=xQ (n:=a.υ.length) ŉ;have c:u64.wrap ((a.υ.length:Int)*2)=(a.υ.length:Int)*2:=qL ⟨ŉ,ŉ⟩;by_cases d:a.neg=true
 .refine Cq.wp.yes d ?_;have:=key 1 ĳ ĳ;unfold ly;rw[ą d,aaF 2];exact this
 refine Cq.wp.no d ?_;have:=key 0 ĳ ĳ;unfold ly;rw[ā d,aaF 2];rw[aaE,e,c,c]at this;rw[e,c];exact this
theorem ψ.C3{p:Ó}(h:ψ p){t:Za}(d:t∈p):t.c.num.υ.length<=1/\t.c.den.υ.length<=1:=by obtain⟨a,c⟩:=h.parts d;rw[a,c];refine⟨?_,Ċ 1⟩;show(uP _).length<=1;unfold uP;split<;>simp
theorem T4{p:Ó}(h:ψ p){t:Za}(c:t∈p):(mG t.c).length<=30:=by obtain⟨a,h2⟩:=h.C3 c;have:=Ma a;have:=Ma h2;unfold mG;rw[Ā];omega
theorem Md(m:M):∀k,(iH m k).length<=11*k
 |0=>Ċ _
 |k+1=>by have:=Md m k;have:=ri (u64.wrap (Ζ m (k:Int)));unfold iH;rw[Ā];omega
theorem Tp{p:Ó}(h:ψ p){t:Za}(a:t∈p):(fV t).length<=118:=by have:=T4 h a;have:=Md t.m 8;unfold fV;rw[Ā];omega
theorem FF{p:Ó}(h:ψ p):(fF p).length<=11811:=by have c:=ri (u64.wrap (p.length:Int));have h2:=ua (f:=fV) (K:=118) (λt a=>Tp h a);have h3:=h.len;have:118*p.length<=11800:=ŉ;unfold fF;rw[Ā];omega
theorem AP{l:Ŀ Ó}(h:∀p∈l,ψ p)(c:l.length<=12):(fR l).length<=150000:=by have a:=ri (u64.wrap (l.length:Int));have h2:=ua (f:=fF) (K:=11811) (λp hp=>FF (h p hp));have:11811*l.length<=141732:=ŉ;unfold fR;rw[Ā];omega
theorem SX{b:Ŀ Int}{p:Ó}(h:ψ p)(A:b.length<=700000):(F3 b p).ω (b++fF p):=by
 have C:=h.len;have m:=xQ (n:=p.length) ŉ;refine⟨_,vy (by rw[m];omega) ŉ,?_⟩;unfold fF;have E:=ri (u64.wrap (p.length:Int));generalize fw (u64.wrap (p.length:Int))=N at *;refine Cq.Zn p.length (λk st=>st=(b++N++(p.take k).flatMap fV,(k:Int))) (λk st d a=>?_) (λst a=>?_) (by show _=_;simp)
 .subst a;have e:=Ă d;obtain⟨i,y⟩:=h.C3 e;have r:=ua (K:=118) (l:=p.take k) (f:=fV) (λx v=>Tp h (œ v));rw[Č]at r;have s:118*min k p.length<=11800:=ŉ;have hr:=T4 h e;refine Cq.wp.yes ŉ ⟨_,Λ d,b++N++(p.take k).flatMap fV++mG p[k].c,⟨_,R9 i (by simp only[Ā];omega),_,R9 y (by
   have:=Ma i;simp only[Ā];omega),?_⟩,?_⟩
  .show _=_;unfold mG;simp only[ď]
  generalize g:b++N++(p.take k).flatMap fV++mG p[k].c=B;have q:B.length<=750000:=by rw[<-g];simp only[Ā];omega
  refine Cq.Zn 8 (λj st=>st=(B++iH p[k].m j,(j:Int))) (λj st c a=>?_) (λst a=>?_) (by show _=_;simp[iH])
  .subst a;have D:=(h.mono _ e) ⟨j,c⟩;have t:=Md p[k].m j;have u:u64.wrap (p[k].m ⟨j,c⟩)=p[k].m ⟨j,c⟩:=qL ⟨ŉ,ŉ⟩;refine Cq.wp.yes ŉ ⟨_,Λ d,⟨ŉ,ŉ⟩,B++iH p[k].m j++fw (u64.wrap (Ζ p[k].m (j:Int))),vy (by rw[Õ c,u];omega) (by rw[Ā];omega),?_⟩;show _=_;rw[χ ŉ,ď];rfl
  subst a;refine Cq.wp.no ĳ ?_;show _=_;rw[χ ŉ,FB fV p d,<-g];unfold fV;simp only[ď]
 subst a;refine Cq.wp.no ŉ ?_;rw[ě (Ċ _)];show _=_;rw[ď]
theorem R7{b:Ŀ Int}{l:Ŀ Ó}(h:∀p∈l,ψ p)(m:l.length<=12)(j:b.length<=500000):(FO b l).ω (b++fR l):=by
 have d:=xQ (n:=l.length) ŉ;refine⟨_,vy (by rw[d];omega) ŉ,?_⟩;unfold fR;have q:=ri (u64.wrap (l.length:Int));generalize fw (u64.wrap (l.length:Int))=N at *;refine Cq.Zn l.length (λk st=>st=(b++N++(l.take k).flatMap fF,(k:Int))) (λk st a c=>?_) (λst c=>?_) (by show _=_;simp)
 .subst c;have e:=ua (K:=11811) (l:=l.take k) (f:=fF) (λx i=>FF (h x (œ i)));rw[Č]at e;have g:11811*min k l.length<=141732:=ŉ;refine Cq.wp.yes ŉ ⟨_,Λ a,_,SX (h _ (Ă a)) (by simp only[Ā];omega),?_⟩;show _=_;rw[χ ŉ,FB fF l a];simp only[ď]
 subst c;refine Cq.wp.no ŉ ?_;rw[ě (Ċ _)];show _=_;rw[ď]
structure iO (n:Int) (least:Int) (l:Ŀ Ó):Prop where
 len:l.length<=12
 hU:∀p∈l,ψ p/\Ð p n=true/\p≠[]/\Υ p=p/\least<=gi p
 st:hV l
structure å (k:Zd):Prop where
 n:1<=k.n/\k.n<=4
 eqs:iO k.n 0 k.eqs
 neqs:iO k.n 1 k.neqs
theorem Gh(n:Int):(lB n).length<=11:=ri _
theorem SU{k:Zd}(g:0<=k.n/\k.n<=1000)(c:∀p∈k.eqs,ψ p)(hi:∀p∈k.neqs,ψ p)(le:k.eqs.length<=12)(e:k.neqs.length<=12):(vw [] k).ω (gZ k):=by
 have d:u64.wrap k.n=k.n:=qL ⟨ŉ,ŉ⟩;have a:u64.wrap (k.n*2)=k.n*2:=qL ⟨ŉ,ŉ⟩;have f:=Gh k.n;have h2:=AP c le;refine⟨lB k.n,Cq.wp.no ŉ ⟨_,vy (b:=[]) (by rw[d,a];omega) ß,?_⟩,_,R7 c le ŉ,_,R7 hi e (by rw[Ā];omega),?_⟩
 .show _=_;unfold lB;rw[aaF 2];rfl
 rfl
theorem å.Dn{k:Zd}(h:å k):(vw [] k).ω (gZ k):=SU ⟨by have:=h.n;omega,by have:=h.n;omega⟩ (λp hp=>(h.eqs.hU p hp).1) (λp hp=>(h.neqs.hU p hp).1) h.eqs.len h.neqs.len
theorem Zwz{k:Zd}(h:å k):(gZ k).length<=1000000:=by have a:=Gh k.n;have h2:=AP (λp hp=>(h.eqs.hU p hp).1) h.eqs.len;have h3:=AP (λp hp=>(h.neqs.hU p hp).1) h.neqs.len;unfold gZ;simp only[Ā];omega
theorem FA{p:Ó}{n:Int}(h:Ð p n=true):(Int.fdiv (i64.wrap (ð p)) (2 ^ (min n.toNat i64.bits)))=0/\gi p<=12:=by
 unfold Ð at h;split at h
 .exact⟨‹_›,Ĥ h⟩
 cases h
theorem Tn{l:Ŀ Ó}(h:hV l){k:Nat}(a:k+1<l.length):ê l[k] l[k+1]<0:=Ī.1 h k (k+1) ŉ a ŉ
theorem Ri{k:Zd}(p:1<=k.n/\k.n<=4){least:Int}{l:Ŀ Ó}(h:iO k.n least l):(À ⟨k⟩ l least).ω true:=by
 have n:=h.len;refine Cq.wp.no ŉ ?_;refine Cq.Zn l.length (λj s=>s=(j:Int)) (λj s c d=>?_) (λs d=>?_) rfl
 .subst d;obtain⟨a,f,g,q4,q5⟩:=h.hU _ (Ă c);obtain⟨f1,f2⟩:=FA f;refine Cq.wp.yes ŉ ⟨_,Λ c,true,⟨true,Eb a,_,FY a.len,by show 0<=k.n;omega,Cq.wp.yes f1 ⟨_,yK a,ă f2⟩⟩,_,yK a,Cq.wp.no ŉ ⟨_,Kz a g,true,?_,Cq.wp.no ĳ ?_⟩⟩
  .rw[q4];have:=Fp a.gq a.gq;rw[xB]at this;exact this
  by_cases e:(0:Int)<(j:Int)
  .obtain⟨i,rfl⟩:∃i,j=i+1:=⟨j-1,ŉ⟩;have hi:i64.wrap (((i+1:Nat):Int)-1)=(i:Int):=by rw[wrap64 ŉ];omega
   have m:=Tn h.st c;refine Cq.wp.yes e ?_;rw[hi];refine⟨_,Λ ŉ,_,Tv (h.hU _ (Ă ŉ)).1.gq a.gq,Cq.wp.no ŉ ?_⟩;exact χ ŉ
  exact Cq.wp.no e (χ ŉ)
 subst d;exact Cq.wp.no ŉ rfl
theorem Fs{k:Zd}(h:å k):(vl k).ω true:=
 ⟨true,Cq.wp.yes h.n.1 (Cq.wp.yes h.n.2 ⟨true,Ri h.n h.eqs,true,Ri h.n h.neqs,rfl⟩),rfl⟩
theorem Zry{p:Ó}(h:ψ p){n:Nat}(e:n<=4)(d:Ð p (n:Int)=true):(xl p (n:Int) 12).ω true:=by
 have g:=(pI (p:=p) (n:=n) ŉ).1 d;obtain⟨f1,f2⟩:=FA d;have c:u64.wrap (n:Int)=(n:Int):=by
  match n,e with
  |0,_=>rfl
  |1,_=>rfl
  |2,_=>rfl
  |3,_=>rfl
  |4,_=>rfl
 have i:=uf p;have f:=yW.2 g.1;rw[Ű]at f;have a:(ð p).toNat<2 ^ n:=by
  rcases eF.1 f with h|h
  .have:=aad n;omega
  exact h
 refine⟨true,As h,_,AH h.len,by rw[c];omega,Cq.wp.yes ?_ ⟨_,wZ h,ă f2⟩⟩;rw[c,wrap64 ŉ];match n,e with
 |0,_=>exact ŕ (show ð p<1 by simp at a;omega) ĳ
 |1,_=>exact ŕ (show ð p<2 by simp at a;omega) ĳ
 |2,_=>exact ŕ (show ð p<4 by simp at a;omega) ĳ
 |3,_=>exact ŕ (show ð p<8 by simp at a;omega) ĳ
 |4,_=>exact ŕ (show ð p<16 by simp at a;omega) ĳ
theorem QE{n:Int}(f:1<=n/\n<=4){least:Int}{l:Ŀ Ó}(h:iO n least l):(Fm l n).ω true:=by
 have r:=h.len;obtain⟨m,rfl,t,g⟩:=vH f;refine Cq.wp.no ŉ ?_;refine Cq.Zn l.length (λj s=>s=(j:Int)) (λj s a d=>?_) (λs d=>?_) rfl
 .subst d;obtain⟨c,k,p,q4,q5⟩:=h.hU _ (Ă a);have hp:0<l[j].length:=š.2 p;refine Cq.wp.yes ŉ ⟨_,Λ a,true,Zry c g k,_,Λ a,Cq.wp.no ŉ ⟨_,Λ a,_,P1 c,_,Λ a,true,?_,?_⟩⟩
  .rw[q4];have:=Kv c.gq c.gq;rw[xB]at this;exact this
  show(if(0:Int)<(j:Int)then _ else _:Cq _).wp _;by_cases e:(0:Int)<(j:Int)
  .obtain⟨i,rfl⟩:∃i,j=i+1:=⟨j-1,ŉ⟩;have hi:i64.wrap (((i+1:Nat):Int)-1)=(i:Int):=by rw[wrap64 ŉ];omega
   have q:=Tn h.st a;refine Cq.wp.yes e ?_;rw[hi];refine⟨_,Λ ŉ,_,Λ a,_,SV (h.hU _ (Ă ŉ)).1.gq c.gq,Cq.wp.no ŉ ?_⟩;exact χ ŉ
  exact Cq.wp.no e (χ ŉ)
 subst d;exact Cq.wp.no ŉ rfl
theorem Kq{k:Zd}(h:å k):(y3 k).ω true:=by
 have f:=h.n;have e:=h.neqs.len;refine Cq.wp.no ŉ (Cq.wp.no ŉ ⟨true,QE h.n h.eqs,true,QE h.n h.neqs,Cq.wp.no ĳ ?_⟩);refine Cq.Zn k.neqs.length (λj s=>s=(j:Int)) (λj s c a=>?_) (λs a=>?_) rfl
 .subst a;obtain⟨d,g,i,q4,q5⟩:=h.neqs.hU _ (Ă c);refine Cq.wp.yes ŉ ⟨_,Λ c,_,wZ d,Cq.wp.no ŉ ?_⟩;exact χ ŉ
 subst a;exact Cq.wp.no ŉ rfl
def û(k:Zd):Ĳ:=bytesOf (gZ k)
theorem zn{k:Zd}(h:å k):(vp k).ω (û k):=⟨true,Fs h,⟨by have:=h.n;omega,Zwz h⟩,rfl⟩
theorem TW{k:Zd}(h:å k):(Gv k).ω (û k):=⟨true,Kq h,Cq.wp.no ĳ ⟨_,h.Dn,rfl⟩⟩
end Go.EL

namespace Go.EL
open Go.IntKind (i8 i16 i32 i64 u8 u16 u32 u64)
open Go Go.RowKit
structure gF (n:Nat) (π:M):Prop where
 perm:Ì π
 fix:∀i:Fin 8,n<=i.val->π i=(i.val:Int)
def jK(n:Nat)(π:M):Bool:=decide (∀i,0<=π i/\π i<8)&&decide (∀i j,π i=π j->i=j)&&decide (∀i:Fin 8,n<=i.val->π i=(i.val:Int))
theorem gF.of{n:Nat}{π:M}(h:jK n π=true):gF n π:=by unfold jK at h;simp only[ĉ,Ě]at h;exact⟨⟨h.1.1,h.1.2⟩,h.2⟩
theorem Zxn:((Α 1).all (jK 1)&&(Α 2).all (jK 2)&&(Α 3).all (jK 3)&&(Α 4).all (jK 4))=true:=by decide +kernel
theorem oz{n:Nat}(h:1<=n/\n<=4){π:M}(hp:π∈Α n):gF n π:=by
 have:=Zxn;simp only[ĉ,Ć]at this;obtain⟨⟨⟨a,h2⟩,h3⟩,c⟩:=this;have d:n=1\/n=2\/n=3\/n=4:=ŉ;rcases d with rfl|rfl|rfl|rfl
 .exact .of (a π hp)
 .exact .of (h2 π hp)
 .exact .of (h3 π hp)
 exact .of (c π hp)
theorem Zwg{n:Nat}(h:1<=n/\n<=4):(K8 (n:Int)).ω (Α n):=by
 have a:n=1\/n=2\/n=3\/n=4:=ŉ;rcases a with rfl|rfl|rfl|rfl<;>exact Cq.ω.mj 60 (by decide +kernel)
theorem vv{n:Nat}:Α n=(λi:Fin 8=>(i.val:Int))::(Α n).tail:=rfl
theorem SL{n:Nat}(d:n<=8){π:M}(h:gF n π){p:Ó}(hp:ψ p)(f:Ð p (n:Int)=true):Ð (à π p) (n:Int)=true:=by
 obtain⟨e,h2⟩:=(pI d).1 f;refine(pI d).2 ⟨λt a i hi=>?_,λt a=>?_⟩
 .obtain⟨y,c,rfl⟩:=ğ.1 ((rk h.perm hp.ord).1.mem_iff.1 a);show ¬0<fx π y.m i;rw[ue h.perm y.m i i (h.fix i hi).symm];exact e y c i hi
 obtain⟨y,c,rfl⟩:=ğ.1 ((rk h.perm hp.ord).1.mem_iff.1 a);show fH (fx π y.m)<=12;rw[Lk h.perm];exact h2 y c
theorem Zxl{π:M}(h:Ì π){p:Ó}(hp:ψ p):(à π p).length=p.length:=by rw[(rk h hp.ord).1.length_eq,ć]
theorem ZyG{π:M}(h:Ì π){p:Ó}(hp:ψ p)(a:p≠[]):à π p≠[]:=λe=>by have:=Zxl h hp;rw[e]at this;exact a (abv.1 this.symm)
theorem ZzB{p q:Ó}(hp:ψ p)(e:ψ q)(h:∀d,-1<=d->((∀t∈p,fH t.m<=d)↔∀t∈q,fH t.m<=d)):gi p=gi q:=by
 have low:∀r:Ó,-1<=gi r:=λr=>by
  have key:∀k,-1<=fI r k:=by
   intro k;induction k with
   |zero=>exact ŝ _
   |succ k a=>
    unfold fI;split
    .split<;>omega
    exact a
  exact key _
 have c:=(tD (low q)).2 ((h _ (low q)).2 ((tD (low q)).1 (ŝ _)));have h2:=(tD (low p)).2 ((h _ (low p)).1 ((tD (low p)).1 (ŝ _)));omega
theorem Zxk{π:M}(h:Ì π){p:Ó}(hp:ψ p):gi (à π p)=gi p:=by
 refine ZzB (oQ h hp) hp (λd _=>⟨λa t c=>?_,λa t c=>?_⟩)
 .have:=a (jl π t) ((rk h hp.ord).1.mem_iff.2 (ğ.2 ⟨t,c,rfl⟩));have e:fH (jl π t).m=fH t.m:=Lk h t.m;omega
 obtain⟨y,f,rfl⟩:=ğ.1 ((rk h hp.ord).1.mem_iff.1 c);have:=a y f;have e:fH (jl π y).m=fH y.m:=Lk h y.m;omega
theorem ZAc{n:Nat}(h:n<=4):Ð iY (n:Int)=true:=(pI ŉ).2 ⟨λt a i _=>by rw[iY,đ]at a;subst a;exact Int.lt_irrefl 0,λt a=>by rw[iY,đ]at a;subst a;decide⟩
theorem ZAb:gi iY=0:=ĳ
theorem Uk{l:Ŀ Ó}{plain:Bool}{q:Ó}(h:q∈kept l plain):∃p∈l,q=Υ p/\p≠[]/\(plain=true->gi p≠0):=by
 obtain⟨a,h2⟩:=Ő.1 h;obtain⟨p,hp,rfl⟩:=ğ.1 a;unfold hC at h2;simp only[ĉ,Ř,aaG]at h2;refine⟨p,hp,rfl,λe=>?_,λe=>?_⟩
 .rw[e]at h2;cases h2.1
 rcases h2.2 with h2|h2
 .rw[e]at h2;cases h2
 rw[xH]at h2;exact aa0 h2
theorem Zz2{l:Ŀ Ó}{plain:Bool}{p:Ó}(hp:p∈l)(c:p≠[])(d:plain=true->gi p≠0):Υ p∈kept l plain:=by
 refine Ő.2 ⟨ğ.2 ⟨p,hp,rfl⟩,?_⟩;have a:(Υ p).isEmpty=false:=by simpa using λe=>c (Br.1 e)
 unfold hC;rw[a,xH];cases plain with
 |false=>rfl
 |true=>rw[Ĉ (d rfl)];rfl
theorem U0{n:Nat}(e:n<=4){least:Int}{l:Ŀ Ó}(a:(eA l).length<=12)(h:∀p∈l,ψ p/\Ð p (n:Int)=true/\p≠[]/\Υ p=p/\least<=gi p):iO (n:Int) least (eA l):=by obtain⟨c,d⟩:=F7 (l:=l) (λp hp=>(h p hp).1.gq);exact⟨a,λp hp=>h p ((d p).1 hp),c⟩
theorem Vm{n:Nat}(f:1<=n/\n<=4){eqs neqs:Ŀ Ó}(g:∀p∈eqs,ψ p/\Ð p (n:Int)=true)(hi:∀p∈neqs,ψ p/\Ð p (n:Int)=true)(j:(eA (hZ eqs neqs)).length<=12)(k:(eA (kept neqs true)).length<=12):
  å ⟨(n:Int),eA (hZ eqs neqs),eA (kept neqs true)⟩ where
 n:=by show 1<=(n:Int)/\(n:Int)<=4;omega
 eqs:=U0 f.2 j λp hp=>by
  rcases Ħ.1 hp with h|h
  .obtain⟨q,d,rfl,c,_⟩:=Uk h;have a:=(g q d).1;exact⟨vD a,by rw[T2];exact(g q d).2,λe=>c (Br.1 e),Th a,by rw[xH];exact KU a c⟩
  rw[Mi p h];exact⟨BD,ZAc f.2,ĳ,Mh,by rw[ZAb];decide⟩
 neqs:=U0 f.2 k λp hp=>by obtain⟨q,d,rfl,c,i⟩:=Uk hp;have a:=(hi q d).1;have:=KU a c;have:=i rfl;exact⟨vD a,by rw[T2];exact(hi q d).2,λe=>c (Br.1 e),Th a,by rw[xH];omega⟩
def þ(k:Zd)(π:M):Zd:=(gK k.n (k.eqs.map (à π)) (k.neqs.map (à π))).1
theorem Lz{l:Ŀ Ó}(h:∀p∈l,p≠[]):gL l=[]:=by unfold gL;rw[List.filter_eq_nil_iff.2 λp hp=>by simpa using h p hp];rfl
structure Am (k:Zd) (π:M):Prop where
 norm:gK k.n (k.eqs.map (à π)) (k.neqs.map (à π))=(þ k π,0)
 eq:þ k π=⟨k.n,eA (hZ (k.eqs.map (à π)) (k.neqs.map (à π))),eA (kept (k.neqs.map (à π)) true)⟩
 core:å (þ k π)
theorem GM{l:Ŀ Ó}{n:Nat}{least:Int}(g:n<=4)(h:iO (n:Int) least l){π:M}(a:gF n π):∀p∈l.map (à π),ψ p/\Ð p (n:Int)=true/\p≠[]/\least<=gi p:=λp hp=>by obtain⟨q,d,rfl⟩:=ğ.1 hp;obtain⟨c,e,f,q4,q5⟩:=h.hU q d;exact⟨oQ a.perm c,SL ŉ a c e,ZyG a.perm c f,by rw[Zxk a.perm c];exact q5⟩
theorem lV{k:Zd}(h:å k){π:M}(a:gF k.n.toNat π):Am k π:=by
 obtain⟨n,eqs,neqs⟩:=k;obtain⟨m,rfl,t,f⟩:=vH h.n;dsimp only at a⊢;rw[Ĕ]at a;have e:=GM f h.eqs a;have hi:=GM f h.neqs a;have r:(eA (hZ (eqs.map (à π)) (neqs.map (à π)))).length<=12:=by have g:=GF (hZ (eqs.map (à π)) (neqs.map (à π)));have i:=vz (eqs.map (à π)) false;have j:=h.eqs.len;unfold hZ at g;rw[Lz (λp hp=>(hi p hp).2.2.1),ę]at g;unfold hZ;rw[Lz (λp hp=>(hi p hp).2.2.1),ę];rw[ć]at i;dsimp only at j;omega
 have s:(eA (kept (neqs.map (à π)) true)).length<=12:=by have g:=GF (kept (neqs.map (à π)) true);have i:=vz (neqs.map (à π)) true;have j:=h.neqs.len;rw[ć]at i;dsimp only at j;omega
 have q:=Vm ⟨t,f⟩ (λp hp=>⟨(e p hp).1,(e p hp).2.1⟩) (λp hp=>⟨(hi p hp).1,(hi p hp).2.1⟩) r s;have c:(eqs.map (à π)++neqs.map (à π)).all (λp=>Ð p (m:Int))=true:=Ć.2 λp hp=>(Ħ.1 hp).elim (λh=>(e p h).2.1) (λh=>(hi p h).2.1);have l:gK (m:Int) (eqs.map (à π)) (neqs.map (à π))=(⟨(m:Int),eA (hZ (eqs.map (à π)) (neqs.map (à π))),eA (kept (neqs.map (à π)) true)⟩,0):=by unfold gK;rw[ą ⟨ŉ,ŉ⟩,ą c,ā ŉ,ā ŉ]
 have d:þ ⟨(m:Int),eqs,neqs⟩ π=⟨(m:Int),eA (hZ (eqs.map (à π)) (neqs.map (à π))),eA (kept (neqs.map (à π)) true)⟩:=by unfold þ;dsimp only;rw[l]
 exact⟨by rw[l,d],d,by rw[d];exact q⟩
theorem QW{l:Ŀ Ó}(i:l.length<=100)(h:∀p∈l,ψ p){π:M}(g:Ì π):(Ay l π).ω (l.map (à π)):=by
 refine⟨⟨ŉ,ŉ⟩,?_⟩;refine Cq.Zn l.length (λk s=>s=((l.take k).map (à π)++List.replicate (l.length-k) [],(k:Int))) (λk s c f=>?_) (λs f=>?_) (by show _=_;simp)
 .subst f;have a:((l.take k).map (à π)++List.replicate (l.length-k) ([]:Ó)).length=l.length:=ab0;refine Cq.wp.yes ŉ ⟨_,Λ c,_,Rs g (h _ (Ă c)),_,Λ (by rw[a];exact c),?_⟩;show _=_;rw[χ ŉ,Ĕ,č c,Ĭ,List.map_singleton];congr 1;rw[List.set_append,ā (by rw[ć,Č];omega)];have e:l.length-k=(l.length-(k+1))+1:=ŉ;have d:k-((l.take k).map (à π)).length=0:=ab0;rw[d,e,aam,aa8,ď];rfl
 subst f;refine Cq.wp.no ŉ ?_;show _=_;rw[ě (Ċ _)];simp
theorem Qt{k:Zd}(h:å k){π:M}(a:gF k.n.toNat π):(EN k π).ω (þ k π):=by
 have f:=h.eqs.len;have g:=h.neqs.len;refine Cq.Zn k.eqs.length (λj s=>s=((k.eqs.take j).map (à π),(j:Int))) (λj s c d=>?_) (λs d=>?_) rfl
 .subst d;refine Cq.wp.yes ŉ ⟨_,Λ c,_,Jw a.perm (h.eqs.hU _ (Ă c)).1,?_,?_⟩
  .simp only[Ā,ć,Č,ė,small];omega
  show _=_;rw[χ ŉ,č c,Ĭ];rfl
 subst d;refine Cq.wp.no ŉ ?_;rw[ě (Ċ _)];show(PR k π (k.eqs.map (à π))).ω _;refine Cq.Zn k.neqs.length (λj s=>s=((k.neqs.take j).map (à π),(j:Int))) (λj s c d=>?_) (λs d=>?_) rfl
 .subst d;refine Cq.wp.yes ŉ ⟨_,Λ c,_,Jw a.perm (h.neqs.hU _ (Ă c)).1,?_,?_⟩
  .simp only[Ā,ć,Č,ė,small];omega
  show _=_;rw[χ ŉ,č c,Ĭ];rfl
 subst d;refine Cq.wp.no ŉ ?_;rw[ě (Ċ _)];show(PO k (k.eqs.map (à π)) (k.neqs.map (à π))).ω _;refine⟨_,RH (by rw[ć];omega) (by rw[ć];omega) (λp hp=>?_) (λp hp=>?_),rfl⟩
 .obtain⟨q,e,rfl⟩:=ğ.1 hp;exact oQ a.perm (h.eqs.hU q e).1
 obtain⟨q,e,rfl⟩:=ğ.1 hp;exact oQ a.perm (h.neqs.hU q e).1
def fm(k:Zd):Ŀ M->Zd×M->Zd×M
 |[],s=>s
 |π::l,s=>fm k l (if Op.bytesLess (û (þ k π)).toList (û s.1).toList=true then(þ k π,π)else s)
def Χ(k:Zd):Zd×M:=fm k (Α k.n.toNat).tail (þ k (λi=>(i.val:Int)),λi=>(i.val:Int))
theorem S5(k:Zd):∀(l:Ŀ M) (s:Zd×M) (π:M),fm k (l++[π]) s=(if Op.bytesLess (û (þ k π)).toList (û (fm k l s).1).toList=true then(þ k π,π)else fm k l s)
 |[],_,_=>rfl
 |x::l,s,π=>S5 k l _ π
theorem Mv{k:Zd}(h:å k):∀{l:Ŀ M}{s:Zd×M},(∀π∈l,gF k.n.toNat π)->å s.1->å (fm k l s).1
 |[],_,_,a=>a
 |π::l,s,c,a=>by
  unfold fm;refine Mv h (λx d=>c x (by simp[d])) ?_;split
  .exact (lV h (c π ß)).core
  exact a
theorem RS(l:Ŀ Int):(bytesOf l).size=l.length:=by
 have key:∀(l:Ŀ Int) (b:Ĳ),(l.foldl (λr n=>r.push (UInt8.ofNat n.toNat)) b).size=b.size+l.length:=by
  intro l;induction l with
  |nil=>intro b;rfl
  |cons x l a=>intro b;rw[List.foldl_cons,a,ByteArray.size_push,Ę];omega
 have:=key l ByteArray.empty;unfold bytesOf;rw[this];simp
theorem ZAZ(k:Zd):û k≠ByteArray.empty:=λe=>by
 have a:=RS (gZ k);have h2:(û k).size=0:=by rw[e];rfl
 unfold û at h2;rw[a]at h2;have:1<=(lB k.n).length:=by unfold lB fw iI;split<;>simp
 unfold gZ at h2;simp only[Ā]at h2;omega
theorem RT{k:Zd}(h:å k){π:M}(a:gF k.n.toNat π){s:Zd×M×Ĳ}:
  (sa k π s).ω (if s.2.2=ByteArray.empty then(þ k π,π,û (þ k π))else if Op.bytesLess (û (þ k π)).toList s.2.2.toList=true then(þ k π,π,û (þ k π))else s):=by
 have e:=h.eqs.len
 have f:=h.neqs.len
 have hp:=lV h a
 refine⟨_,QW ŉ (λp hp=>(h.eqs.hU p hp).1) a.perm,_,QW ŉ (λp hp=>(h.neqs.hU p hp).1) a.perm,(þ k π,0),?_,Cq.wp.no (λh=>h rfl) ⟨_,zn hp.core,?_⟩⟩
 .rw[<-hp.norm]
  refine RL (by rw[ć];omega) (by rw[ć];omega) (λp hp=>?_) (λp hp=>?_)
  .obtain⟨q,d,rfl⟩:=ğ.1 hp
   exact oQ a.perm (h.eqs.hU q d).1
  obtain⟨q,d,rfl⟩:=ğ.1 hp
  exact oQ a.perm (h.neqs.hU q d).1
 by_cases c:s.2.2=ByteArray.empty
 .rw[ą c];exact Cq.wp.yes c rfl
 rw[ā c]
 refine Cq.wp.no c ?_
 by_cases h2:Op.bytesLess (û (þ k π)).toList s.2.2.toList=true
 .refine Cq.wp.yes h2 ?_
  show _=_
  rw[ą h2]
 refine Cq.wp.no h2 ?_
 show _=_
 rw[ā h2]
theorem Kx{k:Zd}(h:å k):∀{l:Ŀ M}{c:Zd}{f:M},(∀π∈l,gF k.n.toNat π)->(nj k l (c,f,û c)).ω ((fm k l (c,f)).1,(fm k l (c,f)).2,û (fm k l (c,f)).1)
 |[],_,_,_=>rfl
 |π::l,c,f,a=>by
  refine⟨_,RT h (a π ß),?_⟩;dsimp only;rw[ā (ZAZ c)];unfold fm;split
  .exact Kx h (λx d=>a x (by simp[d]))
  exact Kx h (λx d=>a x (by simp[d]))
theorem lX{k:Zd}(h:å k):∀π∈Α k.n.toNat,gF k.n.toNat π:=λ_ hp=>oz (by have:=h.n;omega) hp
theorem SO{k:Zd}(h:å k):(EF k).ω (Χ k):=by refine⟨h.n,((Χ k).1,(Χ k).2,û (Χ k).1),?_,rfl⟩;have hp:=lX h;rw[vv]at hp⊢;refine⟨_,RT h (hp _ ß),?_⟩;rw[ą rfl];exact Kx h (λx a=>hp x (by simp[a]))
theorem Zvk{k:Zd}(h:å k):(K7 k).ω (Χ k):=by
 have hp:=lX h;obtain⟨n,t,y,A⟩:=vH h.n;have c:k.n.toNat=n:=ŉ;have a:(Α n).length<=24:=by
  have e:n=1\/n=2\/n=3\/n=4:=ŉ;rcases e with rfl|rfl|rfl|rfl<;>decide +kernel
 unfold Χ;rw[c]at hp⊢;refine⟨Α n,by rw[t];exact Zwg ⟨y,A⟩,?_⟩;rw[vv]at hp a⊢;generalize (Α n).tail=l at *;generalize q:(λi:Fin 8=>(i.val:Int))=ι at *;rw[Ę]at a;refine⟨ι,⟨ĳ,rfl⟩,_,Qt h (by rw[c];exact hp ι ß),ι,⟨ĳ,rfl⟩,?_⟩;have u:å (þ k ι):=(lV h (by rw[c];exact hp ι ß)).core;refine Cq.Zn l.length (λj s=>s=(((j+1:Nat):Int),(fm k (l.take j) (þ k ι,ι)).1,(fm k (l.take j) (þ k ι,ι)).2)) (λj s r oH=>?_) (λs oH=>?_) rfl
 .subst oH;have g:gF k.n.toNat l[j]:=by rw[c];exact hp _ ß
  have p:å (fm k (l.take j) (þ k ι,ι)).1:=Mv h (λx v=>by rw[c];exact hp x (by simp[œ v])) u;have d:j+1<(ι::l).length:=by rw[Ę];omega
  have e:(ι::l)[j+1]=l[j]:=rfl;refine Cq.wp.yes (by rw[Ę];omega) ⟨_,Λ d,_,by rw[e];exact Qt h g,_,TW (lV h g).core,_,TW p,?_⟩;have m:i64.wrap (((j+1:Nat):Int)+1)=((j+1+1:Nat):Int):=χ ŉ;rw[č r,S5];by_cases f:Op.bytesLess (û (þ k l[j])).toList (û (fm k (l.take j) (þ k ι,ι)).1).toList=true
  .rw[ą f];refine Cq.wp.yes f ⟨_,Λ d,?_⟩;show _=_;rw[m];rfl
  rw[ā f];refine Cq.wp.no f ?_;show _=_;rw[m]
 subst oH;refine Cq.wp.no (by rw[Ę];omega) ?_;rw[ě (Ċ _)];rfl
end Go.EL

namespace Go.EL
open Go.IntKind (i8 i16 i32 i64 u8 u16 u32 u64)
open Go Go.RowKit
def k0{α:Type}(S:α->Prop)(w:α->Ŀ Int):Prop:=∀a b x y,S a->S b->w a++x=w b++y->w a=w b/\x=y
theorem k0.both{α:Type}{S:α->Prop}{f g:α->Ŀ Int}(j:k0 S f)(k:k0 S g):k0 S λa=>f a++g a:=λa b x y c d h=>by have h:(f a++g a)++x=(f b++g b)++y:=h;show f a++g a=f b++g b/\_;rw[ď,ď]at h;obtain⟨e,h2⟩:=j a b _ _ c d h;obtain⟨h3,i⟩:=k a b _ _ c d h2;exact⟨by rw[e,h3],i⟩
theorem k0.of{α β:Type}{S:α->Prop}{T:β->Prop}{w:β->Ŀ Int}(h:k0 T w)(g:α->β)(c:∀a,S a->T (g a)):k0 S λa=>w (g a):=λa b x y d f e=>h _ _ x y (c a d) (c b f) e
theorem k0.len{α:Type}{S:α->Prop}{w:α->Ŀ Int}(k:Nat)(h:∀a,S a->(w a).length=k):k0 S w:=λa b _ _ c d e=>List.append_inj e (by rw[h a c,h b d])
theorem H3(n:Int):u8.wrap n=n % 256:=rfl
theorem Uu:∀(f:Nat) {n m:Int}{x y:Ŀ Int},(0<=n/\n<128*128 ^ f/\n<18446744073709551616)->(0<=m/\m<128*128 ^ f/\m<18446744073709551616)->iI f n++x=iI f m++y->n=m/\x=y
 |0,n,m,x,y,c,a,h=>by simp only[iI,Ļ,ķ,Œ,H3]at h;have:(128:Int)*128 ^ 0=128:=rfl;exact⟨ŉ,h.2⟩
 |f+1,n,m,x,y,c,a,h=>by
  have hp:(128:Int)*128 ^ (f+1)=128*(128*128 ^ f):=by rw[Int.pow_succ];omega
  have key:∀{z:Int},(0<=z/\z<128*128 ^ (f+1)/\z<18446744073709551616)->u64.wrap (Int.tdiv z 128)=z / 128/\Int.tmod z 128=z % 128:=λ{z} d=>by obtain⟨d0,d1⟩:=qB d.1;exact⟨by rw[d1];exact qL ⟨ŉ,ŉ⟩,ŏ d.1⟩
  obtain⟨i,j⟩:=key c;obtain⟨e,g⟩:=key a;unfold iI at h;rw[i,j,e,g]at h;simp only[H3]at h;split at h
  .split at h
   .simp only[Ļ,Œ]at h;obtain⟨k,h2⟩:=Uu f (n:=n / 128) (m:=m / 128) ⟨ŉ,ŉ,ŉ⟩ ⟨ŉ,ŉ,ŉ⟩ h.2;exact⟨ŉ,h2⟩
   simp only[Ļ,ķ,Œ]at h;omega
  split at h
  .simp only[Ļ,ķ,Œ]at h;omega
  simp only[Ļ,ķ,Œ]at h;exact⟨ŉ,h.2⟩
theorem Me{n m:Int}{x y:Ŀ Int}(c:0<=n/\n<18446744073709551616)(a:0<=m/\m<18446744073709551616)(h:fw n++x=fw m++y):n=m/\x=y:=by have:(128:Int)*128 ^ 10=151115727451828646838272:=ĳ;exact Uu 10 ⟨c.1,ŉ,c.2⟩ ⟨a.1,ŉ,a.2⟩ h
theorem pA(n:Int):0<=u64.wrap n/\u64.wrap n<18446744073709551616:=by rw[abw];omega
theorem UW{α:Type}(S:α->Prop)(g:α->Int):k0 S λa=>fw (u64.wrap (g a)):=λa b x y _ _ h=>by obtain⟨c,h2⟩:=Me (pA _) (pA _) h;exact⟨by show fw _=fw _;rw[c],h2⟩
theorem L7{α:Type}{S:α->Prop}{w:α->Ŀ Int}(h:k0 S w):∀{l m:Ŀ α}{x y:Ŀ Int},l.length=m.length->(∀a∈l,S a)->(∀a∈m,S a)->l.flatMap w++x=m.flatMap w++y->l.flatMap w=m.flatMap w/\x=y
 |[],[],_,_,_,_,_,e=>⟨rfl,e⟩
 |[],_::_,_,_,d,_,_,_=>by cases d
 |_::_,[],_,_,d,_,_,_=>by cases d
 |a::l,b::m,x,y,d,g,h2,e=>by rw[ś,ś,ď,ď]at e;obtain⟨i,j⟩:=h a b _ _ (g a ß) (h2 b ß) e;obtain⟨k,q4⟩:=L7 h (l:=l) (m:=m) (by simpa using d) (λc f=>g c (by simp[f])) (λc f=>h2 c (by simp[f])) j;exact⟨by rw[ś,ś,i,k],q4⟩
theorem Um{α:Type}{S:α->Prop}{w:α->Ŀ Int}(h:k0 S w):k0 (λl:Ŀ α=>l.length<=1000000/\∀a∈l,S a) λl=>fw (u64.wrap (l.length:Int))++l.flatMap w:=λl m x y d f e=>by have e:(fw (u64.wrap (l.length:Int))++l.flatMap w)++x=(fw (u64.wrap (m.length:Int))++m.flatMap w)++y:=e;show fw _++_=fw _++_/\_;rw[ď,ď]at e;obtain⟨c,h2⟩:=Me (pA _) (pA _) e;rw[xQ d.1,xQ f.1]at c;have c:l.length=m.length:=ŉ;obtain⟨h3,g⟩:=L7 h c d.2 f.2 h2;exact⟨by rw[c,h3],g⟩
theorem UN:k0 (λa:Zg=>a.υ.length<=1000000) ly:=λa b x y j k e=>by
 unfold ly at e⊢;rw[ď,ď]at e;have g:∀c:Zg,c.υ.length<=1000000->(if c.neg=true then u64.wrap (u64.wrap (2*u64.wrap (c.υ.length:Int))+1)else u64.wrap (2*u64.wrap (c.υ.length:Int)))=2*(c.υ.length:Int)+if c.neg=true then 1 else 0:=λc l=>by rw[xQ l,qL (x:=2*(c.υ.length:Int)) ⟨ŉ,ŉ⟩,qL (x:=2*(c.υ.length:Int)+1) ⟨ŉ,ŉ⟩];split<;>omega
 rw[g a j,g b k]at e⊢;obtain⟨f,h2⟩:=Me (by split<;>omega) (by split<;>omega) e;have h3:a.υ.length=b.υ.length:=by split at f<;>split at f<;>omega
 obtain⟨h,i⟩:=L7 (S:=λ_=>True) (k0.len 4 λd _=>Lu d) h3 (λ_ _=>trivial) (λ_ _=>trivial) h2;exact⟨by rw[f,h],i⟩
theorem ZAk:k0 (λa:Zf=>a.num.υ.length<=1000000/\a.den.υ.length<=1000000) mG:=k0.both (UN.of _ λa h=>h.1) (UN.of _ λa h=>h.2)
theorem US(S:(Fin 8->Int)->Prop):∀k,k0 S λm=>iH m k
 |0=>λ_ _ _ _ _ _ e=>⟨rfl,e⟩
 |k+1=>k0.both (US S k) (UW S _)
theorem Zy3:k0 (λt:Za=>t.c.num.υ.length<=1000000/\t.c.den.υ.length<=1000000) fV:=k0.both (ZAk.of _ λa h=>h) ((US (λ_=>True) 8).of _ λa _=>trivial)
theorem ψ.code{p:Ó}(h:ψ p):p.length<=1000000/\∀t∈p,t.c.num.υ.length<=1000000/\t.c.den.υ.length<=1000000:=⟨by have:=h.len;omega,λt c=>by
 obtain⟨a,e,d,h2,h3⟩:=(h.tm t c).c;have f:t.c.num.υ.length<=1/\t.c.den.υ.length<=1:=by
  have:(á (-12) 12 λa=>decide ((ü a).num.υ.length<=1/\(ü a).den.υ.length<=1))=true:=by decide +kernel
  rw[e];exact Ĥ (Zs this (x:=a) ŉ ŉ)
 omega⟩
theorem ZyI:k0 ψ fF:=λa b x y c d e=>Um Zy3 a b x y c.code d.code e
theorem Tf:k0 (λl:Ŀ Ó=>l.length<=1000000/\∀p∈l,ψ p) fR:=Um ZyI
theorem å.code{k:Zd}(h:å k):(k.eqs.length<=1000000/\∀p∈k.eqs,ψ p)/\k.neqs.length<=1000000/\∀p∈k.neqs,ψ p:=
 ⟨⟨by have:=h.eqs.len;omega,λp hp=>(h.eqs.hU p hp).1⟩,by have:=h.neqs.len;omega,λp hp=>(h.neqs.hU p hp).1⟩
theorem Zyh:k0 å gZ:=k0.both (k0.both (UW _ _) (Tf.of _ λa h=>h.code.1)) (Tf.of _ λa h=>h.code.2)
def mh(l:Ŀ Int):Prop:=∀n∈l,0<=n/\n<256
theorem mh.append{a b:Ŀ Int}(h:mh a)(k:mh b):mh (a++b):=λn c=>(Ħ.1 c).elim (h n) (k n)
theorem H2(n:Int):0<=u8.wrap n/\u8.wrap n<256:=by rw[H3];omega
theorem ud:∀(f:Nat) (n:Int),mh (iI f n)
 |0,n=>λm a=>by rw[đ.1 a];exact H2 _
 |f+1,n=>λm a=>by
  unfold iI at a;split at a
  .rcases Ď.1 a with rfl|a
   .exact H2 _
   exact ud f _ m a
  rw[đ.1 a];exact H2 _
theorem Ge{α:Type}{w:α->Ŀ Int}(h:∀a,mh (w a))(l:Ŀ α):mh (l.flatMap w):=λn c=>by obtain⟨a,_,h2⟩:=List.mem_flatMap.1 c;exact h a n h2
theorem ZxP(d:Int):mh (fG d):=λn a=>by
 simp only[fG,Ď,ĝ,ţ]at a;rcases a with rfl|rfl|rfl|rfl<;>exact H2 _
theorem TE(a:Zg):mh (ly a):=(ud _ _).append (Ge ZxP _)
theorem Us(m:Fin 8->Int):∀k,mh (iH m k)
 |0=>λ_ h=>by cases h
 |k+1=>(Us m k).append (ud _ _)
theorem ZxH(t:Za):mh (fV t):=((TE _).append (TE _)).append (Us _ 8)
theorem Te(p:Ó):mh (fF p):=(ud _ _).append (Ge ZxH _)
theorem SC(l:Ŀ Ó):mh (fR l):=(ud _ _).append (Ge Te _)
theorem SD(k:Zd):mh (gZ k):=((ud _ _).append (SC _)).append (SC _)
theorem Zvw(l:Ŀ Int):∀r:Ĳ,(l.foldl (λr n=>r.push (UInt8.ofNat n.toNat)) r).data.toList=r.data.toList++l.map λn=>UInt8.ofNat n.toNat:=by
 induction l with
 |nil=>intro r;simp
 |cons n l a=>
  intro r;rw[List.foldl_cons,a];simp[ByteArray.push]
theorem AX(l:Ŀ Int):(bytesOf l).data.toList=l.map λn=>UInt8.ofNat n.toNat:=by unfold bytesOf;rw[Zvw];rfl
theorem Vg:∀{l m:Ŀ Int},mh l->mh m->(l.map λn=>UInt8.ofNat n.toNat)=(m.map λn=>UInt8.ofNat n.toNat)->l=m
 |[],[],_,_,_=>rfl
 |[],_::_,_,_,h=>by cases h
 |_::_,[],_,_,h=>by cases h
 |a::l,b::m,d,h2,h=>by rw[ġ,ġ,Œ]at h;have e:=Ē UInt8.toNat h.1;rw[UInt8.toNat_ofNat',UInt8.toNat_ofNat']at e;have f:=d a ß;have k2:=h2 b ß;rw[Vg (λn c=>d n (by simp[c])) (λn c=>h2 n (by simp[c])) h.2];congr 1;omega
theorem ZtR{l m:Ŀ Int}(a:mh l)(h2:mh m)(h:bytesOf l=bytesOf m):l=m:=by refine Vg a h2 ?_;rw[<-AX,<-AX,h]
theorem Zwt{a b:Ĳ}(h:a.data.toList=b.data.toList):a=b:=by cases a;cases b;have h:=ź h;dsimp only at h;rw[h]
theorem JL(l m:Ŀ Int):bytesOf l++bytesOf m=bytesOf (l++m):=by refine Zwt ?_;rw[AX,Ĭ,<-AX,<-AX];simp
end Go.EL

namespace Go.EL
open Go.IntKind (i8 i16 i32 i64 u8 u16 u32 u64)
open Go Go.RowKit
def Dl(p:Ó):Bool:=decide (p.Pairwise λx y=>0<Ü x.m y.m)&&p.all (λt=>fp t.c&&decide (∀i,0<=t.m i/\t.m i<=65535))&&decide (p.length<=100)
theorem ψ.of{p:Ó}(h:Dl p=true):ψ p:=by unfold Dl at h;simp only[ĉ,Ě,Ć]at h;obtain⟨⟨c,h2⟩,h3⟩:=h;refine⟨c,λt a=>⟨?_,(h2 t a).2⟩,h3⟩;obtain⟨n,e,d,f,g⟩:=ub (h2 t a).1;exact⟨n,e,d,f,g⟩
end Go.EL

namespace Go.EL
open Go.IntKind (i8 i16 i32 i64 u8 u16 u32 u64)
open Go Go.RowKit
theorem GB{c:Cq Bool}{P:Prop}(h:c.wp λb=>(b=true↔P)):(P/\c.ω true)\/(¬P/\c.ω false):=by
 by_cases hp:P
 .exact .inl ⟨hp,c.mono (λb a=>a.2 hp) h⟩
 exact .inr ⟨hp,c.mono (λb a=>by cases b with
  |true=>exact absurd (a.1 rfl) hp
  |false=>rfl) h⟩
structure ve (n:Nat) (next:Int) (l:Ŀ Zo) (k:Nat):Prop where
 ids:∀i (h:i<l.length),i<k->1<=l[i].id/\l[i].id<next
 inc:∀i (h:i+1<l.length),i+1<k->l[i].id<l[i+1].id
 hU:∀i (h:i<l.length),i<k->ψ l[i].p/\Ð l[i].p (n:Int)=true
theorem ve.zero(n:Nat)(next:Int)(l:Ŀ Zo):ve n next l 0:=⟨λ_ _ h=>absurd h (ĵ _),λ_ _ h=>absurd h (ĵ _),λ_ _ h=>absurd h (ĵ _)⟩
end Go.EL

namespace Go.EL
open Go.IntKind (i8 i16 i32 i64 u8 u16 u32 u64)
open Go Go.RowKit
end Go.EL

namespace Go.EL
open Go.IntKind (i8 i16 i32 i64 u8 u16 u32 u64)
open Go Go.RowKit
theorem UX(n:Nat)(next:Int):im n next []:=⟨ß,λq a=>absurd a ĝ,List.Pairwise.nil,λq a=>absurd a ĝ⟩
end Go.EL

namespace Go.EL
open Go.IntKind (i8 i16 i32 i64 u8 u16 u32 u64)
open Go Go.RowKit
structure iq (x:ZB):Prop where
 n:0<=x.n/\x.n<=255
 l:∀y∈x.l,jf y
 iT:∀g∈x.iT,0<=g/\g<=255
theorem Mc{y:Zw}(h:jf y){n:Nat}(e:n<=4){d:Int}(d0:0<=d)(d12:d<=12){k:Nat}(f:k<=4):ψ (iG y n d k)/\Ð (iG y n d k) (n:Int)=true:=by
 have a:=Zyv h e d0 k;refine⟨a.hU ŉ ŉ ŉ,(pI ŉ).2 ⟨λt c i hi=>?_,λt c=>?_⟩⟩
 .have:=(a.yl t c).2.1 i hi;omega
 have:=(a.yl t c).2.2;omega
theorem im.XV{n:Nat}{next a:Int}{l:Ŀ Zo}(h:im n next l)(h2:next<=a):im n a l:=⟨h.len,λq c=>⟨(h.ids q c).1,ŕ (h.ids q c).2 h2⟩,h.inc,h.hU⟩
theorem im.snoc{n:Nat}{next:Int}{l:Ŀ Zo}(h:im n next l)(g:l.length<12){i:Int}{p:Ó}(hp:ψ p/\Ð p (n:Int)=true)(f:1<=next)(hi:next<=i):im n (i+1) (l++[⟨i,p⟩]) where
 len:=by rw[Ā,ė];omega
 ids:=λq c=>by
  rcases Ħ.1 c with c|c
  .have:=h.ids q c;omega
  rw[đ]at c;subst c;show 1<=i/\i<i+1;omega
 inc:=by rw[ej];refine⟨h.inc,ū _ _,λa e b d=>?_⟩;rw[đ]at d;subst d;have:=h.ids a e;show a.id<i;omega
 hU:=λq c=>by
  rcases Ħ.1 c with c|c
  .exact h.hU q c
  rw[đ]at c;subst c;exact hp
def eQ(x:ZB)(k:Nat):Int:=if 0<x.iT.length then Int.tmod (x.iT.getD (k % x.iT.length) 0) 4 else 0
def ò(x:ZB)(n:Nat):Nat->Ŀ Zo×Ŀ Zo×Int
 |0=>([],[],1)
 |k+1=>
  if k % 3=2 then((ò x n k).1,(ò x n k).2.1++[⟨(ò x n k).2.2+eQ x k,iG (x.l.getD k ⟨[]⟩) n 2 3⟩],(ò x n k).2.2+eQ x k+1)
  else((ò x n k).1++[⟨(ò x n k).2.2+eQ x k,iG (x.l.getD k ⟨[]⟩) n 2 3⟩],(ò x n k).2.1,(ò x n k).2.2+eQ x k+1)
theorem ZtY(x:ZB)(n k:Nat):ò x n (k+1) =
  if k % 3=2 then((ò x n k).1,(ò x n k).2.1++[⟨(ò x n k).2.2+eQ x k,iG (x.l.getD k ⟨[]⟩) n 2 3⟩],(ò x n k).2.2+eQ x k+1)
  else((ò x n k).1++[⟨(ò x n k).2.2+eQ x k,iG (x.l.getD k ⟨[]⟩) n 2 3⟩],(ò x n k).2.1,(ò x n k).2.2+eQ x k+1):=rfl
theorem VS{x:ZB}(h:iq x)(k:Nat):0<=eQ x k/\eQ x k<=3:=by
 unfold eQ;split
 .rename_i hp;have a:k % x.iT.length<x.iT.length:=x9 _ hp;have c:=h.iT (x.iT[k % x.iT.length]) (Ă a);rw[Ģ,Ą a,Ś];have:=Bw c.1 (show(0:Int)<4 by decide);omega
 omega
structure Al (n:Nat) (k:Nat) (s:Ŀ Zo×Ŀ Zo×Int):Prop where
 next:1<=s.2.2/\s.2.2<=1+4*k
 eqs:im n s.2.2 s.1
 neqs:im n s.2.2 s.2.1
 apart:∀a∈s.1,∀b∈s.2.1,a.id≠b.id
 len:s.1.length+s.2.1.length<=k
theorem ZyR{x:ZB}(h:iq x)(k:Nat):jf (x.l.getD k ⟨[]⟩):=by
 rw[Ģ];cases a:x.l[k]? with
 |none=>exact λv c=>by cases c
 |some y=>exact h.l y (Ň a)
theorem Lv{x:ZB}(h:iq x){n:Nat}(j:n<=4):∀k,k<=6->Al n k (ò x n k)
 |0,_=>⟨⟨ŝ 1,(by decide:(1:Int)<=1+4*0)⟩,UX _ _,UX _ _,λa c=>absurd c ĝ,Ċ 0⟩
 |k+1,q=>by
  have f:=Lv h j k ŉ;obtain⟨m,p⟩:=VS h k;have hp:=Mc (ZyR h k) j (d:=2) ĳ ĳ (k:=3) ĳ;have l:=f.next;have r:=f.len;unfold ò;generalize ò x n k=s at *;obtain⟨e,i,nx⟩:=s;dsimp only at *;by_cases h3:k % 3=2
  .rw[ą h3];refine⟨⟨by show 1<=nx+eQ x k+1;omega,by show nx+eQ x k+1<=_;omega⟩,f.eqs.XV (by show nx<=nx+eQ x k+1;omega),f.neqs.snoc (by show i.length<12;omega) hp (by show 1<=nx;omega) (by show nx<=nx+eQ x k;omega),λa c b g=>?_,by show e.length+(i++[_]).length<=k+1;rw[Ā,ė];omega⟩;rcases Ħ.1 g with g|g
   .exact f.apart a c b g
   rw[đ]at g;subst g;have:=(f.eqs.ids a c).2;show a.id≠nx+eQ x k;dsimp only at this;omega
  rw[ā h3];refine⟨⟨by show 1<=nx+eQ x k+1;omega,by show nx+eQ x k+1<=_;omega⟩,f.eqs.snoc (by show e.length<12;omega) hp (by show 1<=nx;omega) (by show nx<=nx+eQ x k;omega),f.neqs.XV (by show nx<=nx+eQ x k+1;omega),λa c b g=>?_,by show(e++[_]).length+i.length<=k+1;rw[Ā,ė];omega⟩;rcases Ħ.1 c with c|c
  .exact f.apart a c b g
  rw[đ]at c;subst c;have:=(f.neqs.ids b g).2;show nx+eQ x k≠b.id;dsimp only at this;omega
def gk:Ŀ Ĳ:=[AN,AM,AL]
theorem ZvR:(gk.all jk&&decide (gk.Pairwise λa b=>a≠b))=true:=by decide +kernel
def ju(x:ZB):Nat:=x.n.toNat % 4
def iX(x:ZB):Zy:=⟨gk.take (ju x),(ò x (ju x) (min x.l.length 6)).1,(ò x (ju x) (min x.l.length 6)).2.1,(ò x (ju x) (min x.l.length 6)).2.2⟩
theorem BC(x:ZB):ju x<4:=x9 _ ĳ
theorem FE(x:ZB):(gk.take (ju x)).length=ju x:=by have:=BC x;rw[Č];show min _ 3=_;omega
theorem ZvN{x:ZB}(h:iq x):Good (iX x)/\(iX x).eqs.length+(iX x).neqs.length<=6:=by
 have f:=BC x;have hi:=Lv h (n:=ju x) ŉ (min x.l.length 6) ŉ;have a:=ZvR;simp only[ĉ,Ć,Ě]at a;have e:=hi.len;have d:=hi.next;refine⟨⟨by show(gk.take _).length<=4;rw[FE];omega,λv c=>a.1 v (œ c),a.2.sublist (List.take_sublist _ _),⟨d.1,?_⟩,?_,?_,hi.apart⟩,?_⟩
 .show (ò x (ju x) (min x.l.length 6)).2.2<=1000000;omega
 .show im (gk.take _).length _ _;rw[FE];exact hi.eqs
 .show im (gk.take _).length _ _;rw[FE];exact hi.neqs
 show(ò x (ju x) (min x.l.length 6)).1.length+(ò x (ju x) (min x.l.length 6)).2.1.length<=6;omega
theorem tl{x:ZB}(h:iq x):i64.wrap (Int.tmod x.n 4)=((ju x:Nat):Int):=by
 obtain⟨a,c⟩:=h.n;have e:Int.tmod x.n 4=((ju x:Nat):Int):=by rw[ŏ a];unfold ju;omega
 have:=BC x;rw[e,wrap64 ŉ]
theorem Zu8{x:ZB}(h:iq x):(FV x).ω (iX x):=by
 have C:=BC x;unfold FV;rw[tl h];refine⟨⟨ŝ 0,ŉ,by show((ju x:Nat):Int)<=3;omega⟩,?_⟩;have g:∀s:Ŀ Zo×Ŀ Zo×Int,s=ò x (ju x) (min x.l.length 6)->(Kn ((gk.take ((ju x:Nat):Int).toNat).drop (0:Int).toNat) s.1 s.2.1 s.2.2).ω (iX x):=λs m=>by subst m;show _=_;rw[Ĕ];rfl
 refine Cq.Zn (min x.l.length 6) (λk s=>s=((k:Int),(gk.take ((ju x:Nat):Int).toNat).drop (0:Int).toNat,(ò x (ju x) k).1,(ò x (ju x) k).2.1,(ò x (ju x) k).2.2)) (λk s B m=>?_) (λs m=>?_) rfl
 .subst m;have hi:=Lv h (n:=ju x) ŉ k ŉ;have i:k<x.l.length:=ŉ;have D:=hi.next;have v:=hi.len;obtain⟨y,A⟩:=VS h k;refine Cq.wp.yes ŉ (Cq.wp.yes ŉ ?_);have key:(EW x (k:Int) ((gk.take ((ju x:Nat):Int).toNat).drop (0:Int).toNat) (ò x (ju x) k).1 (ò x (ju x) k).2.1 (ò x (ju x) k).2.2 (eQ x k)).wp (Out (λs=>s=(((k+1:Nat):Int),(gk.take ((ju x:Nat):Int).toNat).drop (0:Int).toNat,(ò x (ju x) (k+1)).1,(ò x (ju x) (k+1)).2.1,(ò x (ju x) (k+1)).2.2)) λo=>(match o with|(e,f,c,d)=>Kn e f c d).wp λa=>a=iX x):=by
   refine⟨_,Λ i,iG x.l[k] (ju x) 2 3,?_,?_⟩
   .rw[tl h];exact LN (h.l _ (Ă i)) ŉ ĳ ĳ (k:=3) ĳ
   have t:x.l.getD k ⟨[]⟩=x.l[k]:=by rw[Ģ,Ą i];rfl
   have u:i64.wrap ((ò x (ju x) k).2.2+eQ x k)=(ò x (ju x) k).2.2+eQ x k:=wrap64 ŉ;have j:i64.wrap ((ò x (ju x) k).2.2+eQ x k+1)=(ò x (ju x) k).2.2+eQ x k+1:=wrap64 ŉ;have p:Int.tmod (k:Int) 3=((k % 3:Nat):Int):=by rw[ŏ ŉ];omega
   rw[ZtY];by_cases h3:k % 3=2
   .rw[ą h3];refine Cq.wp.yes (by rw[p];omega) ⟨?_,?_⟩
    .rw[Ā,ė];simp only[small];omega
    show _=_;rw[χ ŉ,u,j,t]
   rw[ā h3];refine Cq.wp.no (by rw[p];omega) ⟨?_,?_⟩
   .rw[Ā,ė];simp only[small];omega
   show _=_;rw[χ ŉ,u,j,t]
  show(EX x (k:Int) _ _ _ _).wp _;unfold EX;by_cases r:0<x.iT.length
  .have l:k % x.iT.length<x.iT.length:=x9 _ r;have p:Int.tmod (k:Int) (x.iT.length:Int)=((k % x.iT.length:Nat):Int):=by rw[ŏ ŉ];rfl
   refine Cq.wp.yes ŉ ⟨ŉ,?_⟩;rw[p];refine⟨_,Λ l,?_⟩;have q:eQ x k=Int.tmod x.iT[k % x.iT.length] 4:=by unfold eQ;rw[ą r,Ģ,Ą l,Ś]
   dsimp only;rw[<-q,wrap64 ŉ];exact key
  have q:eQ x k=0:=ā r;refine Cq.wp.no ŉ ?_;rw[q]at key;exact key
 subst m;by_cases v:x.l.length<=6
 .refine Cq.wp.no ŉ ?_;exact g _ rfl
 refine Cq.wp.yes ŉ (Cq.wp.no ŉ ?_);exact g _ rfl
end Go.EL

namespace Go.EL
open Go.IntKind (i8 i16 i32 i64 u8 u16 u32 u64)
open Go Go.RowKit
structure jx (k:Zd):Prop where
 n:0<=k.n/\k.n<=1000
 eqs:∀p∈k.eqs,ψ p
 neqs:∀p∈k.neqs,ψ p
 len:k.eqs.length<=12/\k.neqs.length<=12
theorem jx.zero:jx hK:=⟨ĳ,λp hp=>absurd hp ĝ,λp hp=>absurd hp ĝ,ĳ⟩
theorem å.mJ{k:Zd}(h:å k):jx k:=⟨by have:=h.n;omega,λp hp=>(h.eqs.hU p hp).1,λp hp=>(h.neqs.hU p hp).1,h.eqs.len,h.neqs.len⟩
theorem jx.core{k:Zd}(h:jx k):(vw [] k).ω (gZ k):=SU h.n h.eqs h.neqs h.len.1 h.len.2
theorem Su{n:Int}{eqs neqs:Ŀ Ó}(f:∀p∈eqs,ψ p)(hi:∀p∈neqs,ψ p):jx (gK n eqs neqs).1/\((gK n eqs neqs).2=0->å (gK n eqs neqs).1):=by
 unfold gK;by_cases c:1<=n/\n<=4
 .rw[ą c];by_cases a:(eqs++neqs).all (λp=>Ð p n)=true
  .rw[ą a];by_cases d:12<(eA (hZ eqs neqs)).length
   .rw[ą d];exact⟨jx.zero,λh=>absurd h ĳ⟩
   rw[ā d];by_cases h2:12<(eA (kept neqs true)).length
   .rw[ą h2];exact⟨jx.zero,λh=>absurd h ĳ⟩
   rw[ā h2];obtain⟨m,rfl,g,i⟩:=vH c;rw[List.all_append,ĉ]at a;have e:=Vm ⟨g,i⟩ (λp hp=>⟨f p hp,Ć.1 a.1 p hp⟩) (λp hp=>⟨hi p hp,Ć.1 a.2 p hp⟩) ŉ ŉ;exact⟨e.mJ,λ_=>e⟩
  rw[ā a];exact⟨jx.zero,λh=>absurd h ĳ⟩
 rw[ā c];exact⟨jx.zero,λh=>absurd h ĳ⟩
theorem SP{l:Ŀ Zo}(d:l.length<=1000):(Ft l).ω (l.map (·.p)):=by
 refine Cq.Zn l.length (λk s=>s=((l.take k).map (·.p),(k:Int))) (λk s c a=>?_) (λs a=>?_) rfl
 .subst a;refine Cq.wp.yes ŉ ⟨_,Λ c,?_,?_⟩
  .simp only[Ā,ć,Č,ė,small];omega
  show _=_;rw[χ ŉ,č c,Ĭ];rfl
 subst a;refine Cq.wp.no ŉ ?_;rw[ě (Ċ _)];exact rfl
def pC(s:Zy):Int:=if 1<(s.vars.length:Int)then(s.vars.length:Int)else 1
def mY(s:Zy):Zd×Int:=gK (pC s) (s.eqs.map (·.p)) (s.neqs.map (·.p))
theorem Good.wv{s:Zy}(h:Good s):(∀p∈s.eqs.map (·.p),ψ p)/\∀p∈s.neqs.map (·.p),ψ p:=
 ⟨λp hp=>by obtain⟨q,a,rfl⟩:=ğ.1 hp;exact(h.eqs.hU q a).1,λp hp=>by obtain⟨q,a,rfl⟩:=ğ.1 hp;exact(h.neqs.hU q a).1⟩
theorem Zvl{s:Zy}(h:Good s):(LC s).ω (mY s):=by have a:=h.eqs.len;have c:=h.neqs.len;obtain⟨p1,p2⟩:=h.wv;exact⟨true,ZpM h,Cq.wp.no ĳ ⟨_,SP ŉ,_,SP ŉ,_,RH (by rw[ć];omega) (by rw[ć];omega) p1 p2,rfl⟩⟩
theorem VR{p:Ó}{n m:Nat}(e:n<=m)(c:m<=8)(h:Ð p (n:Int)=true):Ð p (m:Int)=true:=by obtain⟨a,h2⟩:=(pI ŉ).1 h;exact(pI c).2 ⟨λt d i hi=>a t d i ŉ,h2⟩
theorem Zyg{s:Zy}(h:Good s)(i:s.eqs.length+s.neqs.length<=12):mY s=(⟨pC s,eA (hZ (s.eqs.map (·.p)) (s.neqs.map (·.p))),eA (kept (s.neqs.map (·.p)) true)⟩,0)/\å (mY s).1:=by
 have j:=h.vars;obtain⟨m,f,k,l,mv⟩:∃m:Nat,pC s=(m:Int)/\1<=m/\m<=4/\s.vars.length<=m:=by
  unfold pC;by_cases c:1<(s.vars.length:Int)
  .rw[ą c];exact⟨_,rfl,ŉ,ŉ,Ċ _⟩
  rw[ā c];exact⟨1,rfl,ŉ,ŉ,ŉ⟩
 have d:(s.eqs.map (·.p)++s.neqs.map (·.p)).all (λp=>Ð p (m:Int))=true:=Ć.2 λp hp=>by
  rcases Ħ.1 hp with hp|hp
  .obtain⟨q,a,rfl⟩:=ğ.1 hp;exact VR mv ŉ (h.eqs.hU q a).2
  obtain⟨q,a,rfl⟩:=ğ.1 hp;exact VR mv ŉ (h.neqs.hU q a).2
 have n:=GF (hZ (s.eqs.map (·.p)) (s.neqs.map (·.p)));have g:=TR (s.eqs.map (·.p)) (s.neqs.map (·.p));have r:=GF (kept (s.neqs.map (·.p)) true);have q4:=vz (s.neqs.map (·.p)) true;rw[ć,ć]at g;rw[ć]at q4;have e:mY s=(⟨pC s,eA (hZ (s.eqs.map (·.p)) (s.neqs.map (·.p))),eA (kept (s.neqs.map (·.p)) true)⟩,0):=by unfold mY gK;rw[f,ą ⟨ŉ,ŉ⟩,ą d,ā ŉ,ā ŉ]
 obtain⟨p1,p2⟩:=h.wv;exact⟨e,(Su p1 p2).2 (by show(mY s).2=0;rw[e])⟩
theorem ZAg{n:Nat}(h:1<=n/\n<=4):gF n λi=>(i.val:Int):=oz h (by rw[vv];exact aar)
theorem Zvx{k:Zd}(h:å k):å (Χ k).1:=by
 have hp:=lX h;have c:1<=k.n.toNat/\k.n.toNat<=4:=by have:=h.n;omega
 unfold Χ;rw[vv]at hp;exact Mv h (λx a=>hp x (by simp[a])) (lV h (hp _ ß)).core
end Go.EL

namespace Go.EL
open Go.IntKind (i8 i16 i32 i64 u8 u16 u32 u64)
open Go Go.RowKit
abbrev Ord:=Ŀ (Fin 8->Int)
theorem Uv{n:Int}(h:n<0):kE n=fw (u64.wrap (u64.wrap (2*u64.wrap (i64.wrap (0-i64.wrap (n+1))))+1)):=ā ŉ
theorem Uw{n:Int}(h:¬n<0):kE n=lB n:=ą ŉ
theorem RI{b:Ŀ Int}(n:Int)(a:b.length<=900000):(AU b n).ω (b++kE n):=by
 by_cases h:n<0
 .refine Cq.wp.yes h ⟨_,vy (pA _) a,?_⟩;show _=_;rw[Uv h,aaF]
 refine Cq.wp.no h ⟨_,vy (pA _) a,?_⟩;show _=_;rw[Uw h,aaF];rfl
theorem Mg(n:Int):(kE n).length<=11:=by
 by_cases h:n<0
 .rw[Uv h];exact ri _
 rw[Uw h];exact Gh _
theorem F5(m:Fin 8->Int):∀k,(fX m k).length<=11*k
 |0=>Ċ _
 |k+1=>by have a:=F5 m k;have h2:=Mg (Ζ m (k:Int));show(fX m k++kE _).length<=_;rw[Ā];omega
theorem Zvn{b:Ŀ Int}{o:Ord}(q:o.length<=40)(n:b.length<=600000):(Lq b o).ω (b++jJ o):=by
 refine⟨_,vy (pA _) ŉ,?_⟩;unfold jJ;have r:=ri (u64.wrap (o.length:Int));generalize fw (u64.wrap (o.length:Int))=N at *;show(Cq.next _ _).wp _;refine Cq.Zn o.length (λk st=>st=(b++N++(o.take k).flatMap λm=>fX m 8,(k:Int))) (λk st d a=>?_) (λst a=>?_) (by show _=_;simp)
 .subst a;have g:=ua (K:=88) (l:=o.take k) (f:=λm=>fX m 8) (λx _=>F5 x 8);rw[Č]at g;have h:88*min k o.length<=3520:=ŉ;refine Cq.wp.yes ŉ ?_;show(Cq.next _ _).wp _;generalize c:(b++N++(o.take k).flatMap λm=>fX m 8)=B;have e:B.length<=650000:=by rw[<-c];simp only[Ā];omega
  refine Cq.Zn 8 (λj st=>st=(B++fX o[k] j,(j:Int))) (λj st p a=>?_) (λst a=>?_) (by show _=_;simp[fX])
  .subst a;have i:=F5 o[k] j;refine Cq.wp.yes ŉ ⟨_,Λ d,⟨ŉ,ŉ⟩,_,RI _ (by rw[Ā];omega),?_⟩;show _=_;rw[χ ŉ,ď];rfl
  subst a;refine Cq.wp.no ĳ ?_;show _=_;rw[χ ŉ,FB (λm=>fX m 8) o d,<-c];simp only[ď]
 subst a;refine Cq.wp.no ŉ ?_;rw[ě (Ċ _)];show _=_;rw[ď]
structure rQ (q:Zc):Prop where
 p:ψ q.p
 o:q.o.length<=40
theorem ZvT{o:Ord}(h:o.length<=40):(jJ o).length<=4000:=by unfold jJ;have a:=ri (u64.wrap (o.length:Int));have h2:=ua (K:=88) (l:=o) (f:=λm=>fX m 8) (λx _=>F5 x 8);rw[Ā];have h3:88*o.length<=3520:=ŉ;omega
theorem LJ{q:Zc}(h:rQ q):(oT q).length<=20000:=by unfold oT;have a:=Mg q.kind;have h2:=FF h.p;have h3:=ZvT h.o;rw[Ā,Ā];omega
def gR(q:Zc):Ĳ:=bytesOf (oT q)
theorem TU{q:Zc}(h:rQ q):(Gu q).ω (gR q):=by have a:=Mg q.kind;have h2:=FF h.p;exact⟨_,RI (b:=[]) q.kind ĳ,_,SX h.p (by rw[ķ];omega),_,Zvn h.o (by rw[ķ,Ā];omega),rfl⟩
theorem Mk{q:Zc}(h:rQ q):(A8 q).ω (gR q):=⟨by have:=LJ h;omega,rfl⟩
theorem Le{a b:Zc}(c:rQ a)(d:rQ b):(Ao a b).ω (decide (gR a=gR b)):=⟨_,TU c,_,TU d,rfl⟩
theorem Fw{a b:Zd}(c:jx a)(d:jx b):(yS a b).ω (decide (û a=û b)):=⟨_,c.core,_,d.core,rfl⟩
theorem T7(m:Fin 8->Int):∀k,mh (fX m k)
 |0=>λ_ h=>by cases h
 |k+1=>(T7 m k).append (by unfold kE;split<;>exact ud _ _)
theorem Zyy(n:Int):mh (kE n):=by unfold kE;split<;>exact ud _ _
theorem TI(q:Zc):mh (oT q):=((Zyy _).append (Te _)).append ((ud _ _).append (Ge (λm=>T7 m 8) _))
def gM(k:Zd)(q:Zc):Ĳ:=û k++gR q
theorem Vy{k m:Zd}{p q:Zc}(c:å k)(d:å m)(h:gM k p=gM m q):û k=û m/\gR p=gR q:=by unfold gM û gR at h;rw[JL,JL]at h;obtain⟨a,h2⟩:=Zyh k m _ _ c d (ZtR ((SD k).append (TI p)) ((SD m).append (TI q)) h);exact⟨by unfold û;rw[a],by unfold gR;rw[h2]⟩
theorem JW(l:Ŀ Int):(bytesOf l).size=l.length:=RS l
theorem TM{k:Zd}(h:å k):(gZ k).length<=400000:=by have a:=AP (λp hp=>(h.eqs.hU p hp).1) h.eqs.len;have h2:=AP (λp hp=>(h.neqs.hU p hp).1) h.neqs.len;have h3:=ri (u64.wrap (2*u64.wrap k.n));have c:=Gh k.n;unfold gZ;simp only[Ā];omega
theorem zm{k:Zd}{q:Zc}(a:å k)(c:rQ q):(tG k q).ω (gM k q):=by have d:=TM a;have h2:=LJ c;exact⟨_,zn a,_,Mk c,by unfold û gR;rw[JW,JW];omega,rfl⟩
theorem zd{k:Zd}{q:Zc}(a:å k)(c:rQ q):(gM k q).size<=1000000:=by have d:=TM a;have h2:=LJ c;unfold gM û gR;rw[JL,JW,Ā];omega
def ë(kind:Int):Ŀ Zc:=if kind=5\/kind=8 then[⟨4,[],[]⟩]else if kind=6\/kind=10 then[⟨5,[],[]⟩]else if kind=7 then[⟨6,[],[]⟩]else[]
theorem A3(q:Zc):(yO q).ω (ë q.kind)/\(FT q).ω (ë q.kind):=by
 unfold ë;by_cases a:q.kind=5
 .rw[ą (Or.inl a)];exact⟨Cq.wp.yes a (Cq.wp.yes (ă a) rfl),Cq.wp.yes a (Cq.wp.yes (ă a) rfl)⟩
 by_cases g:q.kind=8
 .rw[ą (Or.inr g)];exact⟨Cq.wp.no a (Cq.wp.yes (ă g) rfl),Cq.wp.no a (Cq.wp.yes (ă g) rfl)⟩
 rw[ā ŉ];have f:¬(decide (q.kind=8))=true:=by simpa using g
 by_cases c:q.kind=6
 .rw[ą (Or.inl c)];exact⟨Cq.wp.no a (Cq.wp.no f (Cq.wp.yes c (Cq.wp.yes (ă c) rfl))),Cq.wp.no a (Cq.wp.no f (Cq.wp.yes c (Cq.wp.yes (ă c) rfl)))⟩
 by_cases e:q.kind=10
 .rw[ą (Or.inr e)];exact⟨Cq.wp.no a (Cq.wp.no f (Cq.wp.no c (Cq.wp.yes (ă e) rfl))),Cq.wp.no a (Cq.wp.no f (Cq.wp.no c (Cq.wp.yes (ă e) rfl)))⟩
 rw[ā ŉ];have d:¬(decide (q.kind=10))=true:=by simpa using e
 by_cases h7:q.kind=7
 .rw[ą h7];exact⟨Cq.wp.no a (Cq.wp.no f (Cq.wp.no c (Cq.wp.no d (Cq.wp.yes h7 rfl)))),Cq.wp.no a (Cq.wp.no f (Cq.wp.no c (Cq.wp.no d (Cq.wp.yes h7 rfl))))⟩
 rw[ā h7];exact⟨Cq.wp.no a (Cq.wp.no f (Cq.wp.no c (Cq.wp.no d (Cq.wp.no h7 rfl)))),Cq.wp.no a (Cq.wp.no f (Cq.wp.no c (Cq.wp.no d (Cq.wp.no h7 rfl))))⟩
end Go.EL

namespace Go.EL
open Go.IntKind (i8 i16 i32 i64 u8 u16 u32 u64)
open Go Go.RowKit
theorem KY:∀{a b c:Ŀ UInt8},Op.bytesLess a b=true->Op.bytesLess b c=true->Op.bytesLess a c=true
 |[],_::_,_::_,_,_=>rfl
 |[],[],_,h,_=>by cases h
 |_::_,[],_,h,_=>by cases h
 |[],_::_,[],_,h=>by cases h
 |_::_,_::_,[],_,h=>by cases h
 |x::a,y::b,z::c,d,h2=>by
  simp only[Op.bytesLess,Ķ,ĉ,Ě,aa9]at d h2⊢;rcases d with d|⟨rfl,d⟩
  .rcases h2 with h2|⟨rfl,h2⟩
   .exact .inl (UInt8.lt_trans d h2)
   exact .inl d
  rcases h2 with h2|⟨rfl,h2⟩
  .exact .inl h2
  exact .inr ⟨rfl,KY d h2⟩
theorem Sr:∀{a b:Ŀ UInt8},¬Op.bytesLess a b=true->¬Op.bytesLess b a=true->a=b
 |[],[],_,_=>rfl
 |[],_::_,h,_=>absurd rfl h
 |_::_,[],_,h=>absurd rfl h
 |x::a,y::b,c,h2=>by simp only[Op.bytesLess,Ķ,ĉ,Ě,aa9,not_or,not_and]at c h2;have e:x=y:=UInt8.le_antisymm (UInt8.not_lt.1 h2.1) (UInt8.not_lt.1 c.1);subst e;rw[Sr (c.2 rfl) (h2.2 rfl)]
theorem Re:∀a:Ŀ UInt8,¬Op.bytesLess a a=true
 |[],h=>by cases h
 |x::a,h=>by
  simp only[Op.bytesLess,Ķ,ĉ,Ě,aa9]at h;rcases h with h|⟨_,h⟩
  .exact UInt8.lt_irrefl x h
  exact Re a h
def gY(σ τ:M):M:=λi=>Ζ σ (τ i)
def pU(l:Ŀ M)(τ:M):Bool:=l.all (λσ=>l.any λρ=>decide (gY σ τ=ρ))&&l.all λρ=>l.any λσ=>decide (gY σ τ=ρ)
def kP(n:Nat):Bool:=(Α n).all (pU (Α n))
theorem Zvz(n:Nat):kP n=(Α n).all (pU (Α n)):=rfl
def qz(π:M):Bool:=decide (∀j:Fin 8,∃i:Fin 8,π i=(j.val:Int))
theorem Zwy:(kP 1&&kP 2&&kP 3&&kP 4)=true:=by decide +kernel
theorem Zy2:((Α 1).all qz&&(Α 2).all qz&&(Α 3).all qz&&(Α 4).all qz)=true:=by decide +kernel
theorem mX{n:Nat}(h:1<=n/\n<=4){τ:M}(f:τ∈Α n):(∀σ∈Α n,gY σ τ∈Α n)/\∀ρ∈Α n,∃σ∈Α n,gY σ τ=ρ:=by
 have key:kP n=true:=by
  have:=Zwy;simp only[ĉ]at this;obtain⟨⟨⟨a,h2⟩,h3⟩,g⟩:=this;have i:n=1\/n=2\/n=3\/n=4:=ŉ;rcases i with rfl|rfl|rfl|rfl
  .exact a
  .exact h2
  .exact h3
  exact g
 rw[Zvz]at key;generalize Α n=l at *;have c:pU l τ=true:=Ć.1 key τ f;unfold pU at c;rw[ĉ,Ć,Ć]at c;refine⟨λσ e=>?_,λρ d=>?_⟩
 .obtain⟨ρ,a,h2⟩:=dI.1 (c.1 σ e);rw[Ĥ h2];exact a
 obtain⟨σ,a,h2⟩:=dI.1 (c.2 ρ d);exact⟨σ,a,Ĥ h2⟩
theorem DA{n:Nat}(h:1<=n/\n<=4){π:M}(a:π∈Α n)(j:Fin 8):∃i:Fin 8,π i=(j.val:Int):=by
 have:=Zy2;simp only[ĉ,Ć]at this;obtain⟨⟨⟨c,h2⟩,h3⟩,d⟩:=this;have e:n=1\/n=2\/n=3\/n=4:=ŉ;rcases e with rfl|rfl|rfl|rfl
 .exact Ĥ (c π a) j
 .exact Ĥ (h2 π a) j
 .exact Ĥ (h3 π a) j
 exact Ĥ (d π a) j
theorem Zzz{n:Nat}(h:1<=n/\n<=4){σ τ:M}(c:τ∈Α n)(i j:Fin 8)(a:(j.val:Int)=τ i):gY σ τ i=σ j:=by unfold gY;rw[<-a];exact Õ j.isLt
theorem Sz{n:Nat}(h:1<=n/\n<=4){σ τ:M}(c:σ∈Α n)(a:τ∈Α n)(m:M):fx σ (fx τ m)=fx (gY σ τ) m:=by have e:=(oz h c).perm;have h2:=(oz h a).perm;have h3:=(oz h ((mX h a).1 σ c)).perm;funext j;obtain⟨i,hi⟩:=DA h c j;obtain⟨l,d⟩:=DA h a i;rw[ue e _ i j hi.symm,ue h2 _ l i d.symm,ue h3 _ l j (by rw[Zzz h a l i d.symm];exact hi.symm)]
def gX(F:Zf->Zf)(p:Ó):Ó:=p.map λt=>⟨F t.c,t.m⟩
theorem S9{F:Zf->Zf}{p:Ó}(h:jw p):jw (gX F p):=by unfold gX jw;rw[ei];exact h
theorem K3{π:M}(h:Ì π){p q:Ó}(hp:jw p)(c:jw q)(e:q.Perm (p.map (jl π))):à π p=q:=by obtain⟨a,h2⟩:=rk h hp;exact Sg c (a.trans e.symm) (SI h2)
theorem SA{n:Nat}(h:1<=n/\n<=4){σ τ:M}(a:σ∈Α n)(c:τ∈Α n){p:Ó}(hp:ψ p):à σ (à τ p)=à (gY σ τ) p:=by have e:=(oz h a).perm;have h2:=(oz h c).perm;have h3:=(oz h ((mX h c).1 σ a)).perm;have f:=oQ h2 hp;obtain⟨a1,a2⟩:=rk e f.ord;obtain⟨d,g⟩:=rk h2 hp.ord;refine(K3 h3 hp.ord a2 ?_).symm;refine a1.trans ((d.map _).trans (abH ?_));rw[aac];refine ů λt _=>?_;show(⟨t.c,fx σ (fx τ t.m)⟩:Za)=⟨t.c,_⟩;rw[Sz h a c]
theorem ZvW{π:M}(h:Ì π)(F:Zf->Zf){p:Ó}(hp:ψ p):à π (gX F p)=gX F (à π p):=by obtain⟨a,c⟩:=rk h hp.ord;refine K3 h (S9 hp.ord) (S9 c) ?_;unfold gX;rw[aac];refine(a.map _).trans (abH ?_);rw[aac];rfl
theorem ZAj{s:Int}(d:s=1\/s = -1){u:Int}{g k:Nat}(f:1<=g)(h:1<=k){n:Int}(e:n % ((k*g:Nat):Int)=0):s*u*((s*(n / (g:Int))) / (k:Int))=u*(n / ((k*g:Nat):Int)):=by
 obtain⟨q,rfl⟩:∃q,n=((k*g:Nat):Int)*q:=⟨n / ((k*g:Nat):Int),by have:=dU n ((k*g:Nat):Int);omega⟩;have c:((k*g:Nat):Int)*q=(g:Int)*((k:Int)*q):=by rw[Int.natCast_mul,aaF (k:Int),Int.mul_assoc]
 have a:((k*g:Nat):Int)≠0:=by have:=Nat.mul_pos (show 0<k by omega) (show 0<g by omega);omega
 rw[et _ a,c,et _ ŉ];rcases d with rfl|rfl
 .rw[aaw,aaw,et _ ŉ]
 rw[show(-1:Int)*((k:Int)*q)=(k:Int)*(-q) by rw[Int.mul_neg,Int.neg_mul,aaw],et _ ŉ,Int.neg_mul,aaw,Int.neg_mul,Int.mul_neg,Int.neg_neg]
theorem ZyZ{s:Int}(l:s=1\/s = -1){g:Nat}(k:1<=g){p:Ó}(hp:ψ p)(d:p≠[])(j:∀t∈p,Î t.c % (g:Int)=0):jM (gX (fK s g) p)=s*jM p:=by
 match p,d with
 |t::p,_=>
  obtain⟨e,m,_⟩:=hp.num (t:=t) ß;have c:=j t ß;show(if Î (fK s g t.c)<0 then(-1:Int)else 1)=s*(if Î t.c<0 then -1 else 1);rw[Mf];have n:=MK k c m;have i:=dU (Î t.c) g;rw[c,aaE]at i;generalize Î t.c / (g:Int)=z at *;generalize Î t.c=N at *;have sg:z<0↔N<0:=by
   constructor
   .intro f;have:=abf (show(0:Int)<(g:Int) by omega) f;omega
   intro a;by_cases f:0<z
   .have:=Int.mul_pos (show(0:Int)<(g:Int) by omega) f;omega
   omega
  rcases l with rfl|rfl
  .rw[aaw,aaw];by_cases a:N<0
   .rw[ą a,ą (sg.2 a)]
   rw[ā a,ā (λh=>a (sg.1 h))]
  by_cases a:N<0
  .have:=sg.2 a;rw[ą a,ā ŉ];rfl
  have:¬z<0:=λh=>a (sg.1 h);rw[ā a,ą ŉ];rfl
theorem Zxp{s:Int}(h:s=1\/s = -1){g:Nat}(f:1<=g){p:Ó}(hp:ψ p)(i:∀t∈p,Î t.c % (g:Int)=0):Υ (gX (fK s g) p)=Υ p:=by
 by_cases c:p=[]
 .subst c;rfl
 have j:=K5 h f i;have a:ó (gX (fK s g) p)*g=ó p:=j;have l:1<=ó (gX (fK s g) p):=by
  have:=(xC hp c).1;rcases aa6 (ó (gX (fK s g) p))with e|e
  .rw[e,du]at a;omega
  exact e
 show(gX (fK s g) p).map (λt=>(⟨fK (jM (gX (fK s g) p)) (ó (gX (fK s g) p)) t.c,t.m⟩:Za))=p.map _;rw[ZyZ h f hp c i];generalize ó (gX (fK s g) p)=k at *;unfold gX;rw[aac];refine ů λt m=>?_;have d:=xP m;rw[<-a]at d;show(⟨fK (s*jM p) k (fK s g t.c),t.m⟩:Za)=⟨fK (jM p) (ó p) t.c,t.m⟩;have:fK (s*jM p) k (fK s g t.c)=fK (jM p) (ó p) t.c:=by unfold fK;rw[pH,ZAj h f l d,a]
 rw[this]
theorem Tg{π:M}(h:Ì π){p:Ó}(hp:ψ p):Υ (à π (Υ p))=Υ (à π p):=by
 by_cases a:p=[]
 .subst a;rfl
 have e:Υ p=gX (fK (jM p) (ó p)) p:=rfl;rw[e,ZvW h _ hp];refine Zxp (Mp p) (xC hp a).1 (oQ h hp) (λt c=>?_);obtain⟨y,d,rfl⟩:=ğ.1 ((rk h hp.ord).1.mem_iff.1 c);have:=xP d;exact this
def kF(π:M)(l:Ŀ Ó):Ŀ Ó:=l.map λp=>Υ (à π p)
theorem Ul{n:Nat}{least:Int}{l:Ŀ Ó}(f:n<=4)(h:iO (n:Int) least l){π:M}(d:gF n π){plain:Bool}(hp:plain=true->1<=least):kept (l.map (à π)) plain=kF π l:=by have e:=GM f h d;unfold kept kF;rw[aac];refine List.filter_eq_self.2 λq g=>?_;obtain⟨p,c,rfl⟩:=ğ.1 g;obtain⟨j,k,i,q4⟩:=e (à π p) (ğ.2 ⟨p,c,rfl⟩);have:=Zz2 (l:=[à π p]) (plain:=plain) (p:=à π p) ß i (λa=>by have:=hp a;omega);exact(Ő.1 this).2
theorem ze{k:Zd}(h:å k){π:M}(a:π∈Α k.n.toNat):þ k π=⟨k.n,eA (kF π k.eqs),eA (kF π k.neqs)⟩:=by obtain⟨n,eqs,neqs⟩:=k;obtain⟨m,rfl,e,c⟩:=vH h.n;have d:gF m π:=oz ⟨e,c⟩ a;rw[(lV h (lX h π a)).eq];have hi:=GM c h.neqs d;dsimp only at hi⊢;unfold hZ;rw[Lz (λp hp=>(hi p hp).2.2.1),ę,Ul c h.eqs d (λh=>by cases h),Ul c h.neqs d (λ_=>ŝ 1)]
theorem VZ{n:Nat}{least:Int}{l:Ŀ Ó}(h:iO (n:Int) least l){π:M}(a:Ì π):∀q∈kF π l,ψ q:=λq c=>by obtain⟨p,hp,rfl⟩:=ğ.1 c;exact vD (oQ a (h.hU p hp).1)
theorem U7{n:Nat}(f:1<=n/\n<=4){least:Int}{l:Ŀ Ó}(h:iO (n:Int) least l){σ τ:M}(c:σ∈Α n)(d:τ∈Α n):eA (kF σ (eA (kF τ l)))=eA (kF (gY σ τ) l):=by
 have g:=(oz f c).perm;have h2:=(oz f d).perm;have h3:=(oz f ((mX f d).1 σ c)).perm;have j:=VZ h h2;obtain⟨a1,a2⟩:=F7 (λp hp=>(j p hp).gq);have r:∀q∈kF σ (eA (kF τ l)),ψ q:=λq e=>by obtain⟨p,hp,rfl⟩:=ğ.1 e;exact vD (oQ g (j p ((a2 p).1 hp)))
 obtain⟨k,m⟩:=F7 (λp hp=>(r p hp).gq);refine VV (λp hp=>(VZ h h3 p hp).gq) k λz=>?_;rw[m z];constructor
 .intro i;obtain⟨p,hp,rfl⟩:=ğ.1 i;obtain⟨q,e,rfl⟩:=ğ.1 ((a2 p).1 hp);have a:=(h.hU q e).1;refine ğ.2 ⟨q,e,?_⟩;show Υ (à (gY σ τ) q)=Υ (à σ (Υ (à τ q)));rw[Tg g (oQ h2 a),SA f c d a]
 intro i;obtain⟨q,e,rfl⟩:=ğ.1 i;have a:=(h.hU q e).1;refine ğ.2 ⟨Υ (à τ q),(a2 _).2 (ğ.2 ⟨q,e,rfl⟩),?_⟩;show Υ (à σ (Υ (à τ q)))=Υ (à (gY σ τ) q);rw[Tg g (oQ h2 a),SA f c d a]
theorem Sy{k:Zd}(h:å k){σ τ:M}(c:σ∈Α k.n.toNat)(a:τ∈Α k.n.toNat):þ (þ k τ) σ=þ k (gY σ τ):=by have n:=(lV h (lX h τ a)).core;obtain⟨m,p,e,f⟩:=vH h.n;have d:k.n.toNat=m:=ŉ;have i:=h.eqs;have hi:=h.neqs;rw[p]at i hi;rw[d]at c a;have g:=ze h (π:=τ) (by rw[d];exact a);have j:=ze h (π:=gY σ τ) (by rw[d];exact(mX ⟨e,f⟩ a).1 σ c);have l:=ze n (π:=σ) (by rw[g];show σ∈Α k.n.toNat;rw[d];exact c);rw[l,j,g];show(⟨k.n,eA (kF σ (eA (kF τ k.eqs))),eA (kF σ (eA (kF τ k.neqs)))⟩:Zd)=_;rw[U7 ⟨e,f⟩ i c a,U7 ⟨e,f⟩ hi c a]
theorem LK(k:Zd):∀(l:Ŀ M) (s:Zd×M),(∃ρ,s=(þ k ρ,ρ))->
  (∃ρ,fm k l s=(þ k ρ,ρ)/\(ρ∈l\/fm k l s=s))/\(¬Op.bytesLess (û s.1).toList (û (fm k l s).1).toList=true)/\∀π∈l,¬Op.bytesLess (û (þ k π)).toList (û (fm k l s).1).toList=true
 |[],s,⟨ρ,g⟩=>⟨⟨ρ,g,.inr rfl⟩,Re _,λπ i=>by cases i⟩
 |π::l,s,⟨ρ,g⟩=>by
  unfold fm;by_cases c:Op.bytesLess (û (þ k π)).toList (û s.1).toList=true
  .rw[ą c];obtain⟨⟨r,d,h2⟩,h3,f⟩:=LK k l (þ k π,π) ⟨π,rfl⟩;refine⟨⟨r,d,?_⟩,λh=>?_,λx a=>?_⟩
   .rcases h2 with h2|h2
    .exact .inl (by simp[h2])
    rw[d]at h2;have e:=(Prod.mk.inj h2).2;exact .inl (by simp[e])
   .exact h3 (KY c h)
   rcases Ď.1 a with rfl|a
   .exact h3
   exact f x a
  rw[ā c];obtain⟨⟨r,d,h2⟩,h3,f⟩:=LK k l s ⟨ρ,g⟩;refine⟨⟨r,d,?_⟩,h3,λx a=>?_⟩
  .rcases h2 with h2|h2
   .exact .inl (by simp[h2])
   exact .inr h2
  rcases Ď.1 a with rfl|a
  .intro h;by_cases e:Op.bytesLess (û (fm k l s).1).toList (û s.1).toList=true
   .exact c (KY h e)
   have:=Sr h3 e;rw[<-this]at h;exact c h
  exact f x a
theorem S6(k:Zd):∀(l:Ŀ M) (s:Zd×M),(∀π∈l,¬Op.bytesLess (û (þ k π)).toList (û s.1).toList=true)->fm k l s=s
 |[],_,_=>rfl
 |π::l,s,h=>by unfold fm;rw[ā (h π ß)];exact S6 k l s λx a=>h x (by simp[a])
theorem E5(k:Zd):(∃ρ∈Α k.n.toNat,Χ k=(þ k ρ,ρ))/\∀π∈Α k.n.toNat,¬Op.bytesLess (û (þ k π)).toList (û (Χ k).1).toList=true:=by
 obtain⟨⟨ρ,c,h2⟩,h3,d⟩:=LK k (Α k.n.toNat).tail (þ k (λi=>(i.val:Int)),λi=>(i.val:Int)) ⟨_,rfl⟩;rw[vv];refine⟨⟨ρ,?_,c⟩,λπ a=>?_⟩
 .rcases h2 with h2|h2
  .simp[h2]
  rw[c]at h2;have:=(Prod.mk.inj h2).2;simp[this]
 rcases Ď.1 a with rfl|a
 .exact h3
 exact d π a
theorem id_comp{n:Nat}(a:1<=n/\n<=4){ρ:M}(h:ρ∈Α n):gY (λi=>(i.val:Int)) ρ=ρ:=by funext i;have hr:=(oz a h).perm.oI i;show Ζ _ (ρ i)=ρ i;rw[na hr];show((ρ i).toNat:Int)=ρ i;omega
theorem Zl4{π:M}(h:Ì π):(Jv π).ω true:=by
 refine Cq.Zn 8 (λk s=>∃a:Fin 8->Bool,s=((k:Int),a)/\∀j,a j=true->∃i:Fin 8,i.val<k/\(j.val:Int)=π i) (λk s c e=>?_) (λs e=>?_) ⟨_,rfl,λj f=>by cases f⟩
 .obtain⟨a,rfl,d⟩:=e;have r:=h.oI ⟨k,c⟩;refine Cq.wp.yes ŉ ⟨⟨ŉ,ŉ⟩,?_⟩;rw[Õ c];refine Cq.wp.no ŉ ⟨⟨ŉ,ŉ⟩,Cq.wp.no ŉ ⟨⟨ŉ,ŉ⟩,r,Cq.wp.no (GC h c d) ⟨⟨ŉ,ŉ⟩,r,?_⟩⟩⟩;rw[χ ŉ];exact⟨_,rfl,FG h c d⟩
 obtain⟨a,rfl,d⟩:=e;exact Cq.wp.no ĳ rfl
end Go.EL

namespace Go.EL
open Go.IntKind (i8 i16 i32 i64 u8 u16 u32 u64)
open Go Go.RowKit
abbrev Qn:=Int×Nat
def Μ(x:Qn):Zf:=⟨â x.1,â (x.2:Int)⟩
def uQ(n:Int)(d:Nat):Qn:=(n / ((Nat.gcd n.natAbs d:Nat):Int),d / Nat.gcd n.natAbs d)
def hP(x y:Qn):Qn:=uQ (x.1*y.1) (x.2*y.2)
def mI(x y:Qn):Qn:=uQ (x.1*(y.2:Int)-y.1*(x.2:Int)) (x.2*y.2)
def kj(x:Qn):Qn:=if x.1<0 then(-(x.2:Int),x.1.natAbs)else((x.2:Int),x.1.natAbs)
def pr(x:Qn):Int:=if x.1<0 then -1 else if x.1=0 then 0 else 1
def ie:Ŀ Qn:=[(0,1),(1,1),(-1,1),(2,1),(-2,1),(3,1),(-3,1),(1,2),(-1,2),(3,2),(-3,2),(1,3),(-1,3),(2,3),(-2,3)]
def jR(x:Qn):Bool:=match x.2 with
 |1=>match x.1 with
  |.ofNat n=>Nat.ble n 3
  |.negSucc n=>Nat.ble n 2
 |2=>match x.1 with
  |.ofNat n=>Nat.beq n 1 || Nat.beq n 3
  |.negSucc n=>Nat.beq n 0 || Nat.beq n 2
 |3=>match x.1 with
  |.ofNat n=>Nat.beq n 1 || Nat.beq n 2
  |.negSucc n=>Nat.beq n 0 || Nat.beq n 1
 |_=>false
theorem Gz{x:Qn}(h:jR x=true):x∈ie:=by
 obtain⟨n,d⟩:=x;unfold jR at h;dsimp only at h;split at h
 .cases n with
  |ofNat n=>have h:=Ĩ h;match n,h with|0,_=>decide|1,_=>decide|2,_=>decide|3,_=>decide
  |negSucc n=>have h:=Ĩ h;match n,h with|0,_=>decide|1,_=>decide|2,_=>decide
 .cases n with
  |ofNat n=>rw[Ķ]at h;rcases h with h|h<;>(rw[ĸ h];decide)
  |negSucc n=>rw[Ķ]at h;rcases h with h|h<;>(rw[ĸ h];decide)
 .cases n with
  |ofNat n=>rw[Ķ]at h;rcases h with h|h<;>(rw[ĸ h];decide)
  |negSucc n=>rw[Ķ]at h;rcases h with h|h<;>(rw[ĸ h];decide)
 cases h
theorem OR:(á (-1) 3 λn=>runs 40 (ZY n) (Μ (n,1))&&runs 40 (w7 n) (Μ (n,1)))=true:=by decide +kernel
theorem OP:(ie.all λx=>runs 40 (oO (Μ x)) (pr x)&&runs 40 (ZI (Μ x)) (pr x))=true:=by decide +kernel
theorem OQ:(ie.all λx=>x.1 == 0 || runs 60 (Gn (Μ x)) (Μ (kj x),0))=true:=by decide +kernel
theorem DL:(ie.all λx=>ie.all λy=>runs 60 (rn (Μ x) (Μ y)) (Μ (hP x y)))=true:=by decide +kernel
theorem DN:(ie.all λx=>ie.all λy=>runs 60 (Gr (Μ x) (Μ y)) (Μ (mI x y)))=true:=by decide +kernel
theorem DK:(ie.all λx=>ie.all λy=>runs 60 (Z9 (Μ x) (Μ y)) (Μ (hP x y)))=true:=by decide +kernel
theorem DM:(ie.all λx=>ie.all λy=>runs 60 (EE (Μ x) (Μ y)) (Μ (mI x y)))=true:=by decide +kernel
theorem DO:(ie.all λx=>ie.all λy=>y.1 == 0 || runs 60 (EC (Μ x) (Μ y)) (Μ (hP x (kj y)),0))=true:=by decide +kernel
theorem te{f:Qn->Qn->Bool}(h:(ie.all λx=>ie.all λy=>f x y)=true){x y:Qn}(a:jR x=true)(c:jR y=true):f x y=true:=Ć.1 (Ć.1 h x (Gz a)) y (Gz c)
theorem xS{n:Int}(h:-1<=n/\n<=3):(ZY n).ω (Μ (n,1))/\(w7 n).ω (Μ (n,1)):=by have:=Zs OR h.1 h.2;rw[ĉ]at this;exact⟨Zu this.1,Zu this.2⟩
theorem MQ{x:Qn}(h:jR x=true):(oO (Μ x)).ω (pr x)/\(ZI (Μ x)).ω (pr x):=by have:=Ć.1 OP x (Gz h);rw[ĉ]at this;exact⟨Zu this.1,Zu this.2⟩
theorem ZBM{x:Qn}(h:jR x=true)(a:x.1≠0):(Gn (Μ x)).ω (Μ (kj x),0):=by have:=Ć.1 OQ x (Gz h);rw[Ķ]at this;exact Zu (this.resolve_left (by simpa using a))
theorem Pj{x y:Qn}(a:jR x=true)(c:jR y=true):(rn (Μ x) (Μ y)).ω (Μ (hP x y)):=Zu (te DL a c)
theorem ZBP{x y:Qn}(a:jR x=true)(c:jR y=true):(Gr (Μ x) (Μ y)).ω (Μ (mI x y)):=Zu (te DN a c)
theorem ZBN{x y:Qn}(a:jR x=true)(c:jR y=true):(Z9 (Μ x) (Μ y)).ω (Μ (hP x y)):=Zu (te DK a c)
theorem ZBO{x y:Qn}(a:jR x=true)(c:jR y=true):(EE (Μ x) (Μ y)).ω (Μ (mI x y)):=Zu (te DM a c)
theorem ZBQ{x y:Qn}(c:jR x=true)(d:jR y=true)(a:y.1≠0):(EC (Μ x) (Μ y)).ω (Μ (hP x (kj y)),0):=by have:=te DO c d;rw[Ķ]at this;exact Zu (this.resolve_left (by simpa using a))
end Go.EL

namespace Go.EL
open Go.IntKind (i8 i16 i32 i64 u8 u16 u32 u64)
open Go Go.RowKit
def nS(n:Int):Qn:=uQ n 3
def o9(n m:Int):Qn:=uQ (2*n+3*m) 6
def nH(x:Qn):Bool:=runs 60 (ug (Μ x)) true&&runs 60 (Z0 (Μ x)) true
def qD(x:Qn)(b:Bool):Bool:=runs 60 (vx (Μ x)) b&&runs 60 (tC (Μ x)) b
def BT(x y:Qn)(c:Int):Bool:=runs 60 (vF (Μ x) (Μ y)) c&&runs 60 (vi (Μ x) (Μ y)) c
theorem MN:(á (-128) 127 λn=>runs 60 (xz ⟨n,3,0⟩) (Μ (nS n))&&(nH (nS n)&&qD (nS n) (decide (n=0))))=true:=by decide +kernel
theorem TB:(á 0 7 λm=>runs 60 (xz ⟨m,2,0⟩) (Μ (uQ m 2))&&qD (o9 0 m) (decide (m=0)))=true:=by decide +kernel
theorem Y9:(á (-256) 275 λs=>nH (uQ s 6))=true:=by decide +kernel
theorem Zzy:(á 0 7 λm=>á (-128) 127 λn=>BT (nS n) (o9 n m) (if m=0 then 0 else -1))=true:=by decide +kernel
def nd(m:Int):Bool:=á (-128) 127 λn=>runs 60 (vE (Μ (nS n)) (Μ (uQ m 2))) (Μ (o9 n m))
theorem MU:nd 0=true:=by decide +kernel
theorem MV:nd 1=true:=by decide +kernel
theorem MW:nd 2=true:=by decide +kernel
theorem MX:nd 3=true:=by decide +kernel
theorem MY:nd 4=true:=by decide +kernel
theorem MZ:nd 5=true:=by decide +kernel
theorem M0:nd 6=true:=by decide +kernel
theorem M1:nd 7=true:=by decide +kernel
theorem Zx7{m:Int}(h:0<=m/\m<=7):nd m=true:=by
 have:m=0\/m=1\/m=2\/m=3\/m=4\/m=5\/m=6\/m=7:=ŉ;rcases this with rfl|rfl|rfl|rfl|rfl|rfl|rfl|rfl
 .exact MU
 .exact MV
 .exact MW
 .exact MX
 .exact MY
 .exact MZ
 .exact M0
 exact M1
abbrev gQ(n:Int):Prop:=-128<=n/\n<=127
abbrev iD(m:Int):Prop:=0<=m/\m<=7
theorem UP{n:Int}(h:gQ n):(xz ⟨n,3,0⟩).ω (Μ (nS n)):=by have:=Zs MN h.1 h.2;rw[ĉ]at this;exact Zu this.1
theorem Zw0{m:Int}(h:iD m):(xz ⟨m,2,0⟩).ω (Μ (uQ m 2)):=by have:=Zs TB h.1 h.2;rw[ĉ]at this;exact Zu this.1
theorem UM{n m:Int}(h:gQ n)(a:iD m):(vE (Μ (nS n)) (Μ (uQ m 2))).ω (Μ (o9 n m)):=
 Zu (Zs (Zx7 a) h.1 h.2)
theorem Uo{n:Int}(h:gQ n):(ug (Μ (nS n))).ω true/\(Z0 (Μ (nS n))).ω true:=by have:=Zs MN h.1 h.2;unfold nH at this;simp only[ĉ]at this;exact⟨Zu this.2.1.1,Zu this.2.1.2⟩
theorem UQ{n:Int}(h:gQ n):(vx (Μ (nS n))).ω (decide (n=0))/\(tC (Μ (nS n))).ω (decide (n=0)):=by have:=Zs MN h.1 h.2;unfold qD at this;simp only[ĉ]at this;exact⟨Zu this.2.2.1,Zu this.2.2.2⟩
theorem ZzY{m:Int}(h:iD m):(vx (Μ (o9 0 m))).ω (decide (m=0))/\(tC (Μ (o9 0 m))).ω (decide (m=0)):=by have:=Zs TB h.1 h.2;unfold qD at this;simp only[ĉ]at this;exact⟨Zu this.2.1,Zu this.2.2⟩
theorem TD{n m:Int}(h:gQ n)(a:iD m):(ug (Μ (o9 n m))).ω true/\(Z0 (Μ (o9 n m))).ω true:=by have:=Zs Y9 (show -256<=2*n+3*m by omega) (show 2*n+3*m<=275 by omega);unfold nH at this;simp only[ĉ]at this;exact⟨Zu this.1,Zu this.2⟩
theorem TQ{n m:Int}(h:gQ n)(a:iD m):(vF (Μ (nS n)) (Μ (o9 n m))).ω (if m=0 then 0 else -1)/\(vi (Μ (nS n)) (Μ (o9 n m))).ω (if m=0 then 0 else -1):=by have:=Zs (Zs Zzy a.1 a.2) h.1 h.2;unfold BT at this;simp only[ĉ]at this;exact⟨Zu this.1,Zu this.2⟩
def mg(n m:Int):Zl:=⟨Μ (nS n),Μ (o9 n m)⟩
theorem Qs{n m:Int}(h:gQ n)(a:iD m):(J1 (mg n m)).ω true:=by refine⟨true,(Uo h).1,true,(TD h a).1,_,(TQ h a).1,?_⟩;show decide _=true;split<;>decide
theorem Zot{n m:Int}(h:gQ n)(a:iD m):(JB (mg n m)).ω true:=by refine⟨true,(Uo h).2,true,(TD h a).2,_,(TQ h a).2,?_⟩;show decide _=true;split<;>decide
end Go.EL

namespace Go.EL
open Go.IntKind (i8 i16 i32 i64 u8 u16 u32 u64)
open Go Go.RowKit
def fa{α:Type}(Z row:Ŀ α)(n:Nat):Ŀ α:=Z.take n++row.drop n
section
variable {α:Type}{Z row:Ŀ α}
theorem ZvD:fa Z row 0=row:=rfl
theorem ZwU(h:Z.length=row.length):fa Z row Z.length=Z:=by unfold fa;rw[List.take_length,h,List.drop_length,List.append_nil]
theorem Fa(h:Z.length=row.length){n:Nat}(a:Z.length<=n):fa Z row n=Z:=by unfold fa;rw[List.take_of_length_le a,List.drop_eq_nil_of_le ŉ,List.append_nil]
theorem SJ(h:Z.length=row.length)(n:Nat):(fa Z row n).length=row.length:=by unfold fa;rw[List.length_append,List.length_take,List.length_drop];omega
theorem L0(h:Z.length=row.length){n:Nat}(a:n<row.length):(fa Z row n)[n]?=some row[n]:=by unfold fa;rw[ģ (by rw[Č];omega),Č,ŧ,show n+(n-min n Z.length)=n by omega];exact Ą a
theorem Bb(h:Z.length=row.length){n:Nat}(a:n<row.length):(fa Z row n).set n (Z[n]'ŉ)=fa Z row (n+1):=by
 refine Ÿ λi=>?_;unfold fa;rw[aae];by_cases e:n=i
 .subst e;rw[ą rfl,ą (by rw[Ā,Č,ľ];omega),Ė (by rw[Č];omega),Ŵ ŉ,Ą ŉ]
 rw[ā e];by_cases hi:i<n
 .rw[Ė (by rw[Č];omega),Ė (by rw[Č];omega),Ŵ hi,Ŵ ŉ]
 rw[ģ (by rw[Č];omega),ģ (by rw[Č];omega),Č,Č,ŧ,ŧ];congr 1;omega
theorem KW(h:Z.length=row.length)(g:row.length<=1000){step:Int×Ŀ α->Cq ((Int×Ŀ α)⊕Ŀ α)}(f:∀n (i:n<row.length),(step ((n:Int),fa Z row n)).ω (.inl (((n+1:Nat):Int),(fa Z row n).set n (Z[n]'ŉ))))
  (h2:(step ((row.length:Int),Z)).ω (.inr Z)):(Cq.loop step (0,row)).ω Z:=by
 refine Cq.Zn row.length (λk s=>s=((k:Int),fa Z row k)) (λk s d c=>?_) (λs c=>?_) rfl
 .subst c
  refine(step _).mono (λa (e:a=_)=>?_) (f k d)
  subst e
  show _=_
  rw[Bb h d]
 subst c
 rw[<-h,ZwU h]
 refine(step _).mono (λa (e:a=_)=>?_) (by rw[h];exact h2)
 subst e
 rfl
end
theorem ui{l:Ŀ Qn}{n:Nat}(h:n<l.length):(0:Int)<=(n:Int)/\(l.map Μ)[(n:Int).toNat]?=some (Μ l[n]):=⟨ŉ,by simp[h]⟩
theorem vq{α:Type}{Z row:Ŀ α}(h:Z.length=row.length){n:Nat}(a:n<row.length):(0:Int)<=(n:Int)/\(fa Z row n)[(n:Int).toNat]?=some row[n]:=⟨ŉ,by rw[Ĕ];exact L0 h a⟩
def ph(row hQ:Ŀ Qn)(c:Qn):Ŀ Qn:=List.zipWith (λx y=>mI x (hP c y)) row hQ
def qn(row hQ:Ŀ Qn)(c:Qn):Bool:=jR c&&row.all jR&&hQ.all jR&&hQ.all (λy=>jR (hP c y))&&decide (row.length=8)&&decide (hQ.length=8)
theorem Zx3{row hQ:Ŀ Qn}{k:Nat}(j:k<row.length)(h:qn row hQ row[k]=true):(Kl (row.map Μ) (hQ.map Μ) (k:Int)).ω ((ph row hQ row[k]).map Μ):=by
 unfold qn at h;simp only[ĉ,Ě,Ć]at h;obtain⟨⟨⟨⟨⟨f,h2⟩,h3⟩,g⟩,l⟩,m⟩:=h;have d:((ph row hQ row[k]).map Μ).length=(row.map Μ).length:=by rw[List.length_map,List.length_map];unfold ph;rw[List.length_zipWith];omega
 refine⟨_,ui j,?_⟩;show(Cq.next _ _).wp _;refine Cq.mono _ (λa (e:a=_)=>?_) (KW (Z:=(ph row hQ row[k]).map Μ) (row:=row.map Μ) d (by rw[ć];omega) (λn c=>?_) ?_)
 .subst e;rfl
 .have nR:n<row.length:=by rwa [ć]at c
  have i:n<hQ.length:=ŉ;refine Cq.wp.yes ŉ ⟨_,vq d c,_,ui i,Μ (hP row[k] hQ[n]),Pj f (h3 _ (Ă _)),Μ (mI row[n] (hP row[k] hQ[n])),?_,_,vq d c,?_⟩
  .rw[Ū];exact ZBP (h2 _ (Ă _)) (g _ (Ă _))
  show _=_;rw[χ ŉ];congr 3;simp[ph]
 exact Cq.wp.no (by rw[ć];omega) rfl
def eN:Ŀ Qn->Nat
 |[]=>0
 |x::l=>if x.1=0 then eN l+1 else 0
theorem L5:∀l:Ŀ Qn,eN l<=l.length
 |[]=>Ċ _
 |x::l=>by have:=L5 l;unfold eN;split<;>simp only[Ę]<;>omega
theorem Tx:∀{l:Ŀ Qn}{n:Nat}(h:n<l.length),n<eN l->l[n].1=0
 |x::l,0,_,h=>by
  unfold eN at h;split at h
  .assumption
  omega
 |x::l,n+1,a,h=>by
  unfold eN at h;split at h
  .exact Tx (l:=l) (by simpa using a) ŉ
  omega
theorem L6:∀{l:Ŀ Qn}(h:eN l<l.length),l[eN l].1≠0
 |x::l,h=>by
  by_cases a:x.1=0
  .have e:eN (x::l)=eN l+1:=ą a;simp only[e,x5];exact L6 (l:=l) (by rw[e]at h;simpa using h)
  have e:eN (x::l)=0:=ā a;simp only[e,dw];exact a
theorem FH{x:Qn}:pr x=0↔x.1=0:=by
 unfold pr;split
 .constructor<;>intro<;>omega
 split<;>constructor<;>intro<;>omega
theorem Zwl{row:Ŀ Qn}(h:row.length=8)(a:row.all jR=true):(Ry (row.map Μ) 0).ω (eN row:Int):=by
 rw[Ć]at a;have f:=L5 row;refine Cq.Zn (eN row) (λk s=>s=(k:Int)) (λk s d c=>?_) (λs c=>?_) rfl
 .subst c;refine Cq.wp.yes ŉ ⟨_,ui (l:=row) ŉ,_,(MQ (a _ (Ă ŉ))).1,Cq.wp.yes (FH.2 (Tx ŉ d)) ?_⟩;show _=_;rw[χ ŉ]
 subst c;by_cases g:eN row<8
 .refine Cq.wp.yes ŉ ⟨_,ui (l:=row) ŉ,_,(MQ (a _ (Ă ŉ))).1,Cq.wp.no (λe=>L6 ŉ (FH.1 e)) rfl⟩
 exact Cq.wp.no ŉ rfl
def pq(row:Ŀ Qn)(c:Qn):Ŀ Qn:=row.map λx=>hP x c
theorem Zx4{row:Ŀ Qn}{c:Qn}(e:Int)(h:row.length=8)(a:row.all jR=true)(g:jR c=true):(Rx (Μ c,e) (0,row.map Μ)).ω ((pq row c).map Μ):=by
 rw[Ć]at a;have f:((pq row c).map Μ).length=(row.map Μ).length:=by simp[pq]
 refine KW (Z:=(pq row c).map Μ) (row:=row.map Μ) f (by rw[ć];omega) (λn d=>?_) ?_
 .have nR:n<row.length:=by rwa [ć]at d
  refine Cq.wp.yes ŉ ⟨_,vq f d,Μ (hP row[n] c),?_,_,vq f d,?_⟩
  .rw[Ū];exact Pj (a _ (Ă _)) g
  show _=_;rw[χ ŉ];congr 3;simp[pq]
 exact Cq.wp.no (by rw[ć];omega) rfl
def fW(m:Fin 8->Int):Ŀ Qn:=(List.range 8).map λ(k:Nat)=>(Ζ m (k:Int),1)
def lZ(m:Fin 8->Int):Bool:=decide (∀i,-1<=m i/\m i<=3)
theorem LV(m:Fin 8->Int):(fW m).length=8:=by simp[fW]
theorem T6{m:Fin 8->Int}(h:lZ m=true){k:Nat}(a:k<8):-1<=Ζ m (k:Int)/\Ζ m (k:Int)<=3:=by rw[Õ a];exact Ĥ h _
theorem Zwn{o:Ord}{i:Nat}(hi:i<o.length)(h:lZ o[i]=true){z:Zf}:(QL o (i:Int) (0,List.replicate 8 z)).ω ((fW o[i]).map Μ):=by
 have c:((fW o[i]).map Μ).length=(List.replicate 8 z).length:=by rw[ć,LV,ļ]
 refine KW (Z:=(fW o[i]).map Μ) (row:=List.replicate 8 z) c (by rw[ļ];omega) (λn a=>?_) ?_
 .have nR:n<8:=by rwa [ļ]at a
  refine Cq.wp.yes ŉ ⟨_,Λ hi,⟨ŉ,ŉ⟩,Μ (Ζ o[i] (n:Int),1),(xS (T6 h nR)).1,_,vq c a,?_⟩;show _=_;rw[χ ŉ];congr 3;simp[fW]
 exact Cq.wp.no (by rw[ļ];omega) rfl
def fy(done:Ŀ (Ŀ Qn×Nat))(row:Ŀ Qn):Nat->Ŀ Qn
 |0=>row
 |k+1=>match done[k]? with
  |some d=>ph (fy done row k) d.1 ((fy done row k).getD d.2 (0,1))
  |none=>fy done row k
def qp(done:Ŀ (Ŀ Qn×Nat))(row:Ŀ Qn):Bool:=(List.range done.length).all λk=>match done[k]? with
 |some d=>qn (fy done row k) d.1 ((fy done row k).getD d.2 (0,1))&&decide (d.2<8)
 |none=>false
theorem ZtN{done:Ŀ (Ŀ Qn×Nat)}{row:Ŀ Qn}(l:done.length<=100)(h:qp done row=true):
  (Rz (done.map λd=>d.1.map Μ) (done.map λd=>(d.2:Int)) (0,row.map Μ)).ω ((fy done row done.length).map Μ):=by
 refine Cq.Zn done.length (λk s=>s=((k:Int),(fy done row k).map Μ)) (λk s c e=>?_) (λs e=>?_) rfl
 .subst e
  have a:=Ć.1 h k (Ľ.2 c)
  have f:done[k]?=some done[k]:=Ą c
  rw[f]at a
  dsimp only at a
  rw[ĉ]at a
  have j:(fy done row k).length=8:=by have:=a.1;unfold qn at this;simp only[ĉ,Ě]at this;exact this.1.2
  have h2:done[k].2<(fy done row k).length:=by rw[j];exact Ĥ a.2
  have g:(fy done row k).getD done[k].2 (0,1)=(fy done row k)[done[k].2]:=by rw[Ģ,Ą h2];rfl
  rw[g]at a
  refine Cq.wp.yes (by rw[ć];omega) ⟨done[k].1.map Μ,⟨ŉ,by simp[c]⟩,(done[k].2:Int),⟨ŉ,by simp[c]⟩,_,Zx3 h2 a.1,?_⟩
  show _=_
  rw[χ ŉ]
  congr 2
  have i:fy done row (k+1)=match done[k]? with|some d=>ph (fy done row k) d.1 ((fy done row k).getD d.2 (0,1))|none=>fy done row k:=rfl
  rw[i,f]
  dsimp only
  rw[g]
 subst e
 exact Cq.wp.no (by rw[ć];omega) rfl
def ô(o:Ord):Nat->Ŀ (Ŀ Qn×Nat)
 |0=>[]
 |k+1=>match o[k]? with
  |some m=>
   let row:=fy (ô o k) (fW m) (ô o k).length
   if eN row=8 then ô o k else ô o k++[(pq row (kj (row.getD (eN row) (0,1))),eN row)]
  |none=>ô o k
theorem Cq.fj{α β:Type}{c:Cq α}{k:α->Cq β}{p:β->Prop}{r:α}(h:c.ω r)(h2:(k r).wp p):(c.next k).wp p:=c.mono (λa (e:a=r)=>by rw[e];exact h2) h
def sQ(o:Ord):Bool:=(List.range o.length).all λk=>match o[k]? with
 |some m=>
  let row:=fy (ô o k) (fW m) (ô o k).length
  lZ m&&qp (ô o k) (fW m)&&row.all jR&&decide (row.length=8)&&(eN row == 8 || (jR (row.getD (eN row) (0,1))&&jR (kj (row.getD (eN row) (0,1)))))
 |none=>false
theorem Sc(o:Ord):∀k,(ô o k).length<=k
 |0=>Ċ _
 |k+1=>by
  have:=Sc o k;unfold ô;split
  .dsimp only;split
   .omega
   rw[Ā];simp only[Ę,ĺ];omega
  omega
theorem Zwo{o:Ord}(A:o.length<=40)(h:sQ o=true):(F1 o).ω ((ô o o.length).length:Int):=by
 show(Cq.next _ _).wp _;refine Cq.Zn o.length (λk s=>s=((ô o k).map (λd=>d.1.map Μ),(ô o k).map (λd=>(d.2:Int)),(k:Int))) (λk s j l=>?_) (λs l=>?_) rfl
 .subst l;have e:=Ć.1 h k (Ľ.2 j);have q:o[k]?=some o[k]:=Ą j;rw[q]at e;dsimp only at e;simp only[ĉ,Ě]at e;obtain⟨⟨⟨⟨t,h2⟩,h3⟩,n⟩,g⟩:=e;have x:=Sc o k;have f:ô o (k+1)=if eN (fy (ô o k) (fW o[k]) (ô o k).length)=8 then ô o k else ô o k++[(pq (fy (ô o k) (fW o[k]) (ô o k).length) (kj ((fy (ô o k) (fW o[k]) (ô o k).length).getD (eN (fy (ô o k) (fW o[k]) (ô o k).length)) (0,1))),eN (fy (ô o k) (fW o[k]) (ô o k).length))]:=by
   show(match o[k]? with|some m=>_|none=>_)=_;rw[q]
  generalize y:ô o k=D at *;have c:=ZtN (done:=D) (row:=fW o[k]) ŉ h2;generalize r:fy D (fW o[k]) D.length=row at *;have u:=L5 row;refine Cq.wp.yes ŉ ?_;refine Cq.fj (Zwn j t) (Cq.fj c (Cq.fj (Zwl n h3) ?_));by_cases i:eN row=8
  .refine Cq.wp.yes ŉ ?_;show _=_;rw[χ ŉ,f,ą i]
  refine Cq.wp.no ŉ ?_;have a:eN row<row.length:=ŉ;have v:row.getD (eN row) (0,1)=row[eN row]:=by rw[Ģ,Ą a];rfl
  rw[v]at g f;have p:jR row[eN row]=true/\jR (kj row[eN row])=true:=by rw[Ķ,aa9,ĉ]at g;exact g.resolve_left i
  refine⟨_,ui a,_,ZBM p.1 (L6 a),Cq.fj (Zx4 0 n h3 p.2) ?_⟩;refine⟨by simp only[Ā,ć,Ę,ĺ];show _<=small;simp only[small];omega,by simp only[Ā,ć,Ę,ĺ];show _<=small;simp only[small];omega,?_⟩;show _=_;rw[χ ŉ,f,ā i,Ĭ,Ĭ];rfl
 subst l;refine Cq.wp.no ŉ ?_;show _=_;rw[ć]
end Go.EL

namespace Go.EL
open Go.IntKind (i8 i16 i32 i64 u8 u16 u32 u64)
open Go Go.RowKit
abbrev Mq:=Ŀ (Ŀ Qn)
def gx(V:Mq):Ŀ (Ŀ Zf):=V.map λr=>r.map Μ
theorem GD{α:Type}{V:Ŀ α}{k:Nat}(a:k<V.length)(r:α):(0:Int)<=(k:Int)/\(V.set k r)[(k:Int).toNat]?=some r:=⟨ŉ,by simp[a]⟩
theorem ZAo{α:Type}{V:Ŀ α}{k j:Nat}(a:j<V.length)(h:k≠j)(r:α):(0:Int)<=(j:Int)/\(V.set k r)[(j:Int).toNat]?=some V[j]:=⟨ŉ,by simp[h,a]⟩
theorem LW{α:Type}{V:Ŀ α}{k:Nat}(a:k<V.length):V.set k V[k]=V:=ß
theorem Zxc{m:Fin 8->Int}(h:lZ m=true){V:Ŀ (Ŀ Zf)}{k:Nat}(f:k<V.length){z:Zf}(g:V[k]=List.replicate 8 z):(PT (k:Int) m (V,0)).ω (V.set k ((fW m).map Μ)):=by
 have c:((fW m).map Μ).length=(List.replicate 8 z).length:=by rw[ć,LV,ļ]
 refine Cq.Zn 8 (λj s=>s=(V.set k (fa ((fW m).map Μ) (List.replicate 8 z) j),(j:Int))) (λj s e d=>?_) (λs d=>?_) (by rw[ZvD,<-g,LW f];rfl)
 .subst d;have a:j<(List.replicate 8 z).length:=by rw[ļ];exact e
  refine Cq.wp.yes ŉ ⟨⟨ŉ,ŉ⟩,Μ (Ζ m (j:Int),1),(xS (T6 h e)).2,_,GD f _,_,vq c a,?_⟩;show _=_;rw[χ ŉ,Ĕ,Ĕ,List.set_set,<-Bb c a];congr 3;simp[fW]
 subst d;refine Cq.wp.no ĳ ?_;show _=_;rw[Fa c (by rw[ć,LV];exact Ċ _)]
theorem ZtX{o:Ord}(i:o.length<=100)(h:o.all lZ=true){z:Zf}:(P9 o (List.replicate o.length (List.replicate 8 z),0)).ω (gx (o.map fW)):=by
 rw[Ć]at h;have d:(gx (o.map fW)).length=(List.replicate o.length (List.replicate 8 z)).length:=by unfold gx;rw[List.length_map,List.length_map,List.length_replicate]
 refine Cq.Zn o.length (λk s=>s=(fa (gx (o.map fW)) (List.replicate o.length (List.replicate 8 z)) k,(k:Int))) (λk s f e=>?_) (λs e=>?_) rfl
 .subst e;have a:k<(List.replicate o.length (List.replicate 8 z)).length:=by rw[ļ];exact f
  have c:k<(fa (gx (o.map fW)) (List.replicate o.length (List.replicate 8 z)) k).length:=by rw[SJ d];exact a
  have g:(fa (gx (o.map fW)) (List.replicate o.length (List.replicate 8 z)) k)[k]=List.replicate 8 z:=by have:=L0 d a;rw[Ą c]at this;rw[Ŧ this,List.getElem_replicate]
  refine Cq.wp.yes ŉ ⟨_,Λ f,Cq.fj (Zxc (h _ (Ă _)) c g) ?_⟩;show _=_;rw[χ ŉ,<-Bb d a];congr 3;simp[gx]
 subst e;refine Cq.wp.no ŉ ?_;show _=_;rw[Fa d (by rw[d,ļ];exact Ċ _)]
def fo(i:Nat):Mq->Nat
 |[]=>0
 |r::l=>if(r.getD i (0,1)).1=0 then fo i l+1 else 0
theorem L4(i:Nat):∀l:Mq,fo i l<=l.length
 |[]=>Ċ _
 |x::l=>by have:=L4 i l;unfold fo;split<;>simp only[Ę]<;>omega
theorem TT{i:Nat}:∀{l:Mq}{n:Nat}(h:n<l.length),n<fo i l->(l[n].getD i (0,1)).1=0
 |x::l,0,_,h=>by
  unfold fo at h;split at h
  .assumption
  omega
 |x::l,n+1,a,h=>by
  unfold fo at h;split at h
  .exact TT (l:=l) (by simpa using a) ŉ
  omega
theorem Tw{i:Nat}:∀{l:Mq}(h:fo i l<l.length),(l[fo i l].getD i (0,1)).1≠0
 |x::l,h=>by
  by_cases a:(x.getD i (0,1)).1=0
  .have e:fo i (x::l)=fo i l+1:=ą a;simp only[e,x5];exact Tw (l:=l) (by rw[e]at h;simpa using h)
  have e:fo i (x::l)=0:=ā a;simp only[e,dw];exact a
def oh(V:Mq):Bool:=V.all λr=>decide (r.length=8)&&r.all jR
theorem Zxg{V:Mq}(h:oh V=true){r:Ŀ Qn}(hr:r∈V):r.length=8/\∀x∈r,jR x=true:=by have:=Ć.1 h r hr;rw[ĉ,Ć]at this;exact⟨Ĥ this.1,this.2⟩
theorem qd{r:Ŀ Qn}{i:Nat}(h:i<r.length):r.getD i (0,1)=r[i]:=by rw[Ģ,Ą h];rfl
theorem Zw6{V:Mq}(n:V.length<=100)(h:oh V=true){i:Nat}(hi:i<8):(ZO (gx V) (i:Int)).ω (if fo i V=V.length then -1 else(fo i V:Int)):=by
 have l:=L4 i V;have d:(gx V).length=V.length:=ć _;have g:∀k (c:k<V.length),(Kb (V[k].map Μ) (i:Int)).ω (decide (¬pr (V[k].getD i (0,1))=0)):=λk c=>by obtain⟨p,m⟩:=Zxg h (Ă c);have Ck:i<V[k].length:=ŉ;rw[qd Ck];exact⟨_,ui Ck,_,(MQ (m _ (Ă _))).2,rfl⟩
 show(Cq.next _ _).wp _;refine Cq.Zn (fo i V) (λk s=>s=(k:Int)) (λk s c f=>?_) (λs f=>?_) rfl
 .subst f;refine Cq.wp.yes (by rw[d];omega) ⟨V[k].map Μ,⟨ŉ,by simp[gx,show k<V.length by omega]⟩,_,g k ŉ,Cq.wp.no (by rw[FH.2 (TT ŉ c)];decide) ?_⟩;show _=_;rw[χ ŉ]
 subst f;by_cases j:fo i V=V.length
 .rw[ą j];exact Cq.wp.no (by rw[d];omega) rfl
 rw[ā j];have a:fo i V<V.length:=ŉ;exact Cq.wp.yes (by rw[d];omega) ⟨V[fo i V].map Μ,⟨ŉ,by simp[gx,a]⟩,_,g _ a,Cq.wp.yes (ă λe=>Tw a (FH.1 e)) rfl⟩
def ji(row rr:Ŀ Qn)(i:Nat):Ŀ Qn:=row.take i++List.zipWith (λx y=>mI x (hP (hP (row.getD i (0,1)) (kj (rr.getD i (0,1)))) y)) (row.drop i) (rr.drop i)
def nq(row rr:Ŀ Qn)(i:Nat):Bool:=decide (row.length=8)&&decide (rr.length=8)&&row.all jR&&rr.all jR&&decide ((rr.getD i (0,1)).1≠0)&&jR (hP (row.getD i (0,1)) (kj (rr.getD i (0,1))))&&(rr.drop i).all λy=>jR (hP (hP (row.getD i (0,1)) (kj (rr.getD i (0,1)))) y)
theorem Fy{row rr:Ŀ Qn}{i:Nat}(a:row.length=8)(h2:rr.length=8):(ji row rr i).length=8:=by unfold ji;rw[Ā,Č,List.length_zipWith,ľ,ľ];omega
theorem Zyk{row rr:Ŀ Qn}{i j:Nat}(a:row.length=8)(h2:rr.length=8)(hi:i<=j)(d:j<8):(ji row rr i)[j]'(by rw[Fy a h2];exact d)=mI row[j] (hP (hP (row.getD i (0,1)) (kj (rr.getD i (0,1)))) rr[j]):=by
 have c:(ji row rr i)[j]?=some (mI row[j] (hP (hP (row.getD i (0,1)) (kj (rr.getD i (0,1)))) rr[j])):=by unfold ji;rw[ģ (by rw[Č];omega),Č,List.getElem?_zipWith,ŧ,ŧ,show i+(j-min i row.length)=j by omega,Ą ŉ,Ą ŉ]
 rw[Ą (by rw[Fy a h2];exact d)]at c;exact Ŧ c
theorem ZwD{V:Ŀ (Ŀ Zf)}{r k i:Nat}{row rr:Ŀ Qn}{e:Int}(j:k<V.length)(hr:r<V.length)(l:k≠r)(hi:i<8)(p:V[k]=row.map Μ)(h2:V[r]=rr.map Μ)(h:nq row rr i=true):
  (P8 (r:Int) (k:Int) (Μ (hP (row.getD i (0,1)) (kj (rr.getD i (0,1)))),e) (V,(i:Int))).ω (V.set k ((ji row rr i).map Μ)):=by
 unfold nq at h
 simp only[ĉ,Ě,Ć]at h
 obtain⟨⟨⟨⟨⟨⟨c,n⟩,u⟩,q4⟩,q5⟩,v⟩,x⟩:=h
 have a:((ji row rr i).map Μ).length=(row.map Μ).length:=by rw[ć,ć,Fy c n,c]
 have d:fa ((ji row rr i).map Μ) (row.map Μ) i=row.map Μ:=by unfold fa ji;rw[Ĭ,u1 (by rw[ć,Č];omega),List.map_take,List.take_take,Nat.min_self,Ņ]
 refine Cq.Zn (8-i) (λt s=>s=(V.set k (fa ((ji row rr i).map Μ) (row.map Μ) (i+t)),((i+t:Nat):Int))) (λt s y m=>?_) (λs m=>?_) (by rw[dV,d,<-p,LW j])
 .subst m
  have f:i+t<(row.map Μ).length:=by rw[ć];omega
  have g:i+t<rr.length:=ŉ
  have q:rr[i+t]∈rr.drop i:=by rw[Ń];exact⟨t,by rw[ľ];omega,by rw[List.getElem_drop]⟩
  refine Cq.wp.yes ŉ ⟨_,GD j _,_,vq a f,V[r],ZAo hr l _,Μ rr[i+t],by rw[h2];exact ui g,_,ZBN v (q4 _ (Ă _)),Μ (mI row[i+t] (hP (hP (row.getD i (0,1)) (kj (rr.getD i (0,1)))) rr[i+t])),?_,_,GD j _,_,vq a f,?_⟩
  .rw[Ū]
   exact ZBO (u _ (Ă _)) (x _ q)
  show _=_
  rw[χ ŉ,Ĕ,Ĕ,List.set_set,<-Ş,<-Bb a f]
  congr 3
  rw[Ū,Zyk c n ŉ ŉ]
 subst m
 refine Cq.wp.no ŉ ?_
 show _=_
 rw[Fa a (by rw[ć,Fy c n];omega)]
theorem zj(V:Mq):(gx V).length=V.length:=ć _
theorem zv{V:Mq}{k:Nat}(a:k<V.length):(0:Int)<=(k:Int)/\(gx V)[(k:Int).toNat]?=some (V[k].map Μ):=⟨ŉ,by simp[gx,a]⟩
theorem LR(V:Mq)(k:Nat)(r:Ŀ Qn):(gx V).set k (r.map Μ)=gx (V.set k r):=by unfold gx;rw[List.map_set]
theorem getDM{V:Mq}{k:Nat}(h:k<V.length):V.getD k []=V[k]:=by rw[Ģ,Ą h];rfl
def fJ(M:Mq)(r i:Nat):Nat->Mq
 |0=>M
 |t+1=>(fJ M r i t).set (r+1+t) (ji ((fJ M r i t).getD (r+1+t) []) ((fJ M r i t).getD r []) i)
def oe(M:Mq)(r i:Nat):Bool:=(List.range (M.length-(r+1))).all λt=>nq ((fJ M r i t).getD (r+1+t) []) ((fJ M r i t).getD r []) i
theorem KV(M:Mq)(r i:Nat):∀t,(fJ M r i t).length=M.length
 |0=>rfl
 |t+1=>by have:=KV M r i t;unfold fJ;rw[ħ,this]
theorem ZtU{M:Mq}{r i:Nat}(q:M.length<=100)(hr:r<M.length)(hi:i<8)(h:oe M r i=true):
  (P7 (r:Int) (i:Int) (gx M,((r+1:Nat):Int))).ω (gx (fJ M r i (M.length-(r+1)))):=by
 refine Cq.Zn (M.length-(r+1)) (λt s=>s=(gx (fJ M r i t),((r+1+t:Nat):Int))) (λt s m f=>?_) (λs f=>?_) rfl
 .subst f
  have c:=Ć.1 h t (Ľ.2 m)
  have j:fJ M r i (t+1)=(fJ M r i t).set (r+1+t) (ji ((fJ M r i t).getD (r+1+t) []) ((fJ M r i t).getD r []) i):=rfl
  have p:=KV M r i t
  generalize fJ M r i t=X at *
  have d:r+1+t<X.length:=ŉ
  have a:r<X.length:=ŉ
  rw[getDM d,getDM a]at c j
  have oG:=c
  unfold nq at oG
  simp only[ĉ,Ě,Ć]at oG
  obtain⟨⟨⟨⟨⟨⟨u,v⟩,n⟩,q4⟩,q5⟩,x⟩,y⟩:=oG
  have l:i<X[r+1+t].length:=ŉ
  have g:i<X[r].length:=ŉ
  have hp:=ZwD (V:=gx X) (e:=0) (r:=r) (k:=r+1+t) (i:=i) (row:=X[r+1+t]) (rr:=X[r]) (by rw[zj];exact d) (by rw[zj];exact a) ŉ hi (by simp[gx]) (by simp[gx]) c
  rw[qd l,qd g]at hp
  rw[qd g]at q5
  refine Cq.wp.yes (by rw[zj];omega) ⟨_,zv d,_,ui l,_,zv a,_,ui g,_,ZBQ (n _ (Ă _)) (q4 _ (Ă _)) q5,Cq.fj hp ?_⟩
  show _=_
  rw[χ ŉ,LR,j]
  rfl
 subst f
 refine Cq.wp.no (by rw[zj,KV];omega) ?_
 rfl
def kl(M:Mq)(r f:Nat):Mq:=(M.set r (M.getD (r+f) [])).set (r+f) (M.getD r [])
def qx(s:Mq×Nat)(i:Nat):Mq×Nat:=if fo i (s.1.drop s.2)=(s.1.drop s.2).length then s else(fJ (kl s.1 s.2 (fo i (s.1.drop s.2))) s.2 i (s.1.length-(s.2+1)),s.2+1)
def s8(s:Mq×Nat)(i:Nat):Bool:=oh s.1&&decide (s.2<=s.1.length)&&decide (s.1.length<=100)&&(decide (fo i (s.1.drop s.2)=(s.1.drop s.2).length) || oe (kl s.1 s.2 (fo i (s.1.drop s.2))) s.2 i)
def kG(M:Mq):Nat->Mq×Nat
 |0=>(M,0)
 |i+1=>qx (kG M i) i
def ql(M:Mq):Bool:=(List.range 8).all λi=>s8 (kG M i) i
theorem ZvO{V:Mq}(h:oh V=true)(k:Nat):oh (V.drop k)=true:=Ć.2 λr hr=>Ć.1 h r (aaR hr)
theorem Zwh{o:Ord}(x:o.length<=100)(v:o.all lZ=true)(h:ql (o.map fW)=true):(Fc o).ω ((kG (o.map fW) 8).2:Int):=by
 refine⟨⟨ŉ,ŉ⟩,?_⟩;rw[Ĕ];refine Cq.fj (ZtX x v) ?_;show(Cq.next _ _).wp _;generalize o.map fW=M at h;refine Cq.Zn 8 (λi s=>s=(gx (kG M i).1,((kG M i).2:Int),(i:Int))) (λi s hi d=>?_) (λs d=>?_) rfl
 .subst d;have k:=Ć.1 h i (Ľ.2 hi);have t:kG M (i+1)=qx (kG M i) i:=rfl;rw[t];generalize kG M i=S at *;obtain⟨X,r⟩:=S;unfold s8 at k;simp only[ĉ,Ě]at k;obtain⟨⟨⟨n,h2⟩,h3⟩,g⟩:=k;dsimp only at n h2 h3 g⊢;have q:=Zw6 (V:=X.drop r) (by rw[ľ];omega) (ZvO n r) hi;have u:gx (X.drop r)=(gx X).drop r:=by unfold gx;rw[List.map_drop]
  rw[u]at q;have l:=L4 i (X.drop r);refine Cq.wp.yes ŉ ⟨⟨ŉ,by rw[zj];omega⟩,_,by rw[Ĕ];exact q,?_⟩;by_cases c:fo i (X.drop r)=(X.drop r).length
  .rw[ą c];refine Cq.wp.yes ĳ ?_;show _=_;rw[χ ŉ];have j:qx (X,r) i=(X,r):=ą c;rw[j]
  rw[ā c];have j:qx (X,r) i=(fJ (kl X r (fo i (X.drop r))) r i (X.length-(r+1)),r+1):=ā c;rw[Ķ,Ě]at g;have g:=g.resolve_left c;rw[ľ]at l c;generalize fo i (X.drop r)=f at *;have a:r+f<X.length:=ŉ;have hr:r<X.length:=ŉ;have y:i64.wrap ((r:Int)+(f:Int))=((r+f:Nat):Int):=by rw[wrap64 ŉ];omega
  have d:kl X r f=(X.set r X[r+f]).set (r+f) X[r]:=by unfold kl;rw[getDM a,getDM hr]
  have m:(kl X r f).length=X.length:=by rw[d,ħ,ħ]
  have p:=ZtU (M:=kl X r f) (r:=r) (i:=i) ŉ ŉ hi g;rw[m]at p;refine Cq.wp.no ŉ ?_;rw[y];refine⟨_,zv a,_,zv hr,_,zv hr,(if r=r+f then X[r+f].map Μ else X[r+f].map Μ),⟨ŉ,?_⟩,?_⟩
  .rw[Ĕ,Ĕ,aae];by_cases e:r=r+f
   .rw[ą e,ą (by rw[zj];exact hr),ą e]
   rw[ā e,ā e];have:=(zv a).2;rwa [Ĕ]at this
  rw[Ĕ,Ĕ,LR,LR,<-d,χ ŉ];refine Cq.fj p ?_;show _=_;rw[χ ŉ,χ ŉ,j]
 subst d;exact Cq.wp.no ĳ rfl
end Go.EL

namespace Go.EL
open Go.IntKind (i8 i16 i32 i64 u8 u16 u32 u64)
open Go Go.RowKit
theorem gF.b{n:Nat}{π:M}(h:gF n π):jK n π=true:=by unfold jK;simp only[ĉ,Ě];exact⟨⟨h.perm.oI,h.perm.inj⟩,h.fix⟩
theorem Tc(π:M):à π []=[]:=rfl
theorem ZyF{n:Nat}(a:1<=n/\n<=4){p:Ó}(hp:ψ p):à (λi=>(i.val:Int)) p=p:=by
 have hi:=(ZAg a).perm;refine K3 hi hp.ord hp.ord (abH ?_);refine((ů λt _=>?_).trans (List.map_id _)).symm;show jl _ t=t;unfold jl;have:fx (λi:Fin 8=>(i.val:Int)) t.m=t.m:=by funext j;exact ue hi _ j j rfl
 rw[this]
end Go.EL

namespace Go.EL
open Go.IntKind (i8 i16 i32 i64 u8 u16 u32 u64)
open Go Go.RowKit
def pn(m:Nat):Fin 8->Int:=λi=>if m.testBit i.val then 1 else 0
def jm(k:Nat)(w:Int):Fin 8->Int:=λi=>if i.val=k then w else 0
def pk:Ord:=[pn 255,jm 7 (-1),jm 6 (-1),jm 5 (-1),jm 4 (-1),jm 3 (-1),jm 2 (-1),jm 1 (-1)]
def gV:Ord:=(List.range 8).map λk=>jm k 1
def OU:Ord:=[λi=>if i.val=0 then 2 else if i.val=1 then 3 else 1]
def OV:Ord:=[λi=>if i.val<2 then 1 else 0,λi=>if i.val=0 then 1 else if i.val=1 then 0 else if i.val=2 then 2 else 1]
def l4(k:Nat):Ord:=match k % 8 with
 |0=>[]
 |1=>[pn 255]
 |2=>pk
 |3=>pk
 |4=>OU
 |5=>OV
 |_=>pn (k / 8 % 16)::pk
theorem U4:EU.ω pk:=Zu (n:=20) (by decide +kernel)
theorem TP:(á 0 15 λm=>runs 20 (Ju m) (pn m.toNat::pk))=true:=by decide +kernel
theorem ZvH:Fh.ω [pn 255]:=Zu (n:=5) (by decide +kernel)
theorem ZBr:([ε (ε (ε (ε (ε (ε (ε (ε (λ_=>0) 0 2) 1 3) 2 1) 3 1) 4 1) 5 1) 6 1) 7 1]:Ord)=OU:=by decide +kernel
theorem ZBs:([ε (ε (ε (ε (ε (ε (ε (ε (λ_=>0) 0 1) 1 1) 2 0) 3 0) 4 0) 5 0) 6 0) 7 0,ε (ε (ε (ε (ε (ε (ε (ε (λ_=>0) 0 1) 1 0) 2 2) 3 1) 4 1) 5 1) 6 1) 7 1]:Ord)=OV:=by decide +kernel
theorem TG{k:Nat}(h:k<=255):(xD (k:Int)).ω (l4 k):=by
 have f:Int.tmod (k:Int) 8=((k % 8:Nat):Int):=rfl;have a:Int.tmod (u8.wrap (Int.tdiv (k:Int) 8)) 16=((k / 8 % 16:Nat):Int):=by have c:Int.tdiv (k:Int) 8=((k / 8:Nat):Int):=rfl;rw[c,H3,show((k / 8:Nat):Int) % 256=((k / 8:Nat):Int) by omega];rfl
 have d:=x9 k (show 0<8 by decide);have e:=x9 (k / 8) (show 0<16 by decide);unfold xD EV l4;rw[f];generalize g:k % 8=j at *;match j,d with
 |0,_=>exact Cq.wp.yes rfl ⟨_,rfl,rfl⟩
 |1,_=>exact Cq.wp.no ĳ (Cq.wp.yes rfl ⟨_,ZvH,rfl⟩)
 |2,_=>exact Cq.wp.no ĳ (Cq.wp.no ĳ (Cq.wp.yes rfl (Cq.wp.yes rfl ⟨_,U4,rfl⟩)))
 |3,_=>exact Cq.wp.no ĳ (Cq.wp.no ĳ (Cq.wp.no ĳ (Cq.wp.yes rfl ⟨_,U4,rfl⟩)))
 |4,_=>
  refine Cq.wp.no ĳ (Cq.wp.no ĳ (Cq.wp.no ĳ (Cq.wp.no ĳ ?_)));exact Cq.wp.yes rfl ZBr
 |5,_=>
  refine Cq.wp.no ĳ (Cq.wp.no ĳ (Cq.wp.no ĳ (Cq.wp.no ĳ ?_)));exact Cq.wp.no ĳ (Cq.wp.yes rfl ZBs)
 |6,_=>
  refine Cq.wp.no ĳ (Cq.wp.no ĳ (Cq.wp.no ĳ (Cq.wp.no ĳ ?_)));rw[a];exact Cq.wp.no ĳ (Cq.wp.no ĳ ⟨_,Zu (Zs TP ŉ ŉ),rfl⟩)
 |7,_=>
  refine Cq.wp.no ĳ (Cq.wp.no ĳ (Cq.wp.no ĳ (Cq.wp.no ĳ ?_)));rw[a];exact Cq.wp.no ĳ (Cq.wp.no ĳ ⟨_,Zu (Zs TP ŉ ŉ),rfl⟩)
def kU:Ŀ Ord:=[[],[pn 255],pk,OU,OV]++(List.range 16).map λm=>pn m::pk
theorem Uc{k:Nat}:l4 k∈kU:=by
 unfold l4;have h2:=x9 (k / 8) (show 0<16 by decide);unfold kU;rw[Ħ];split
 .exact .inl ß
 .exact .inl ß
 .exact .inl ß
 .exact .inl ß
 .exact .inl ß
 .exact .inl ß
 exact .inr (ğ.2 ⟨_,Ľ.2 h2,rfl⟩)
def eP(o:Ord):Ord:=if(ô o o.length).length=8 then o else o++gV
def dN(π:Fin 8->Int)(o:Ord):Ord:=o.map (fx π)
def se(o:Ord)(k:Fin 8):Bool:=match(o.map λm=>m k).find? λx=>x != 0 with
 |some x=>decide (0<x)
 |none=>true
def mF(o:Ord):Bool:=o.all lZ&&decide (o.length<=24)&&decide (∀k,se o k=true)&&sQ o&&ql (o.map fW)&&decide ((kG (o.map fW) 8).2=(ô o o.length).length)
theorem ZAd:(kU.all λo=>mF o&&decide ((ô o o.length).length=8\/o.length<=16))=true:=by decide +kernel
end Go.EL

namespace Go.EL
open Go.IntKind (i8 i16 i32 i64 u8 u16 u32 u64)
open Go Go.RowKit
def sL(o:Ord):Bool:=mF o&&Nat.beq (ô o o.length).length 8
def oj(k:Nat):Bool:=((kU.drop (3*k)).take 3).all λo=>(Α 3).all λπ=>sL (dN π (eP o))
theorem Dc:oj 0=true:=by decide +kernel
theorem Dd:oj 1=true:=by decide +kernel
theorem De:oj 2=true:=by decide +kernel
theorem Df:oj 3=true:=by decide +kernel
theorem Dg:oj 4=true:=by decide +kernel
theorem Dh:oj 5=true:=by decide +kernel
theorem Di:oj 6=true:=by decide +kernel
theorem l7{α:Type}{l:Ŀ α}{p:α->Prop}(k:Nat)(h:∀x∈(l.drop (3*k)).take 3,p x)(h2:∀x∈l.drop (3*(k+1)),p x):∀x∈l.drop (3*k),p x:=λx a=>by
 rw[<-Ņ 3 (l.drop (3*k)),Ħ]at a;rcases a with a|a
 .exact h x a
 rw[abR]at a;exact h2 x a
theorem xO{k:Nat}(h:oj k=true):∀o∈(kU.drop (3*k)).take 3,∀π∈Α 3,sL (dN π (eP o))=true:=λo c π a=>Ć.1 (Ć.1 h o c) π a
theorem Uz:∀o∈kU,∀π∈Α 3,sL (dN π (eP o))=true:=
 l7 0 (xO Dc)<|l7 1 (xO Dd)<|l7 2 (xO De)<|l7 3 (xO Df)<|l7 4 (xO Dg)<|l7 5 (xO Dh)<|l7 6 (xO Di) λo a=>by
  have e:kU.drop 21=[]:=by decide +kernel
  have a:o∈kU.drop 21:=a;rw[e]at a;cases a
end Go.EL

namespace Go.EL
open Go.IntKind (i8 i16 i32 i64 u8 u16 u32 u64)
open Go Go.RowKit
def gj(l:Ŀ Int):Int:=match l.find? λx=>x != 0 with
 |some x=>x
 |none=>0
theorem Q5(l:Ŀ Int)(x:Int):gj (l++[x])=if gj l=0 then x else gj l:=by
 unfold gj;rw[abl];cases h:l.find? λx=>x != 0 with
 |none=>
  simp only[Option.none_or];rw[ą trivial];by_cases a:x=0
  .subst a;rfl
  rw[List.find?_cons_of_pos (by simpa using a)]
 |some y=>
  have:=aaT h;simp only[Option.some_or];rw[ā (by simpa using this)]
theorem ZtT{o:Ord}{k:Fin 8}(h:se o k=true):0<=gj (o.map λm=>m k):=by
 unfold se at h;unfold gj;cases a:(o.map λm=>m k).find? λx=>x != 0 with
 |some x=>
  rw[a]at h;have:=Ĥ h;dsimp only;omega
 |none=>exact ŝ _
theorem ZvF{l m:Ŀ Int}(h:0<=gj (l++m)):0<=gj l:=by
 unfold gj at h⊢;rw[abl]at h;cases a:l.find? λx=>x != 0 with
 |none=>exact ŝ _
 |some y=>rw[a]at h;exact h
structure kK (o:Ord):Prop where
 row:∀m∈o,∀k,-1<=m k/\m k<=3
 len:o.length<=24
 V6:∀k:Fin 8,0<=gj (o.map λm=>m k)
theorem kK.of{o:Ord}(h:mF o=true):kK o:=by unfold mF at h;simp only[ĉ,Ě,Ć]at h;obtain⟨⟨⟨⟨⟨a,h2⟩,h3⟩,_⟩,_⟩,_⟩:=h;exact⟨λm c k=>Ĥ (a m c) k,h2,λk=>ZtT (h3 k)⟩
theorem Qb{o:Ord}{i:Nat}(hi:i<o.length)(f:(Fin 8->Int)->Int):(o.take (i+1)).map f=(o.take i).map f++[f o[i]]:=by rw[č hi,Ĭ];rfl
theorem E0{o:Ord}(h:kK o):(yZ o).ω true:=by
 have g:=h.len;refine Cq.wp.no ŉ ?_;show(Cq.next _ _).wp _;refine Cq.Zn 8 (λk s=>s=(k:Int)) (λk s a c=>?_) (λs c=>?_) rfl
 .subst c;refine Cq.wp.yes ŉ ?_;show(Cq.next _ _).wp _;refine Cq.Zn o.length (λi s=>s=(gj ((o.take i).map λm=>m ⟨k,a⟩),(i:Int))) (λi s hi c=>?_) (λs c=>?_) rfl
  .subst c;have hr:=h.row _ (Ă hi) ⟨k,a⟩;have f:Ζ o[i] (k:Int)=o[i] ⟨k,a⟩:=Õ a;refine Cq.wp.yes ŉ ⟨_,Λ hi,⟨ŉ,ŉ⟩,Cq.wp.no (by rw[f];omega) ⟨_,Λ hi,⟨ŉ,ŉ⟩,Cq.wp.no (by rw[f];omega) ?_⟩⟩;have e:=Q5 ((o.take i).map λm=>m ⟨k,a⟩) (o[i] ⟨k,a⟩);rw[<-Qb hi (λm=>m ⟨k,a⟩)]at e;by_cases d:gj ((o.take i).map λm=>m ⟨k,a⟩)=0
   .refine Cq.wp.yes d ⟨_,Λ hi,⟨ŉ,ŉ⟩,?_⟩;show _=_;rw[χ ŉ,f,e,ą d]
   refine Cq.wp.no d ?_;show _=_;rw[χ ŉ,e,ā d]
  subst c;refine Cq.wp.no ŉ ?_;have:=h.V6 ⟨k,a⟩;rw[ĥ];refine Cq.wp.no ŉ ?_;show _=_;rw[χ ŉ]
 subst c;exact Cq.wp.no ĳ rfl
def sX(l:Ord):Fin 8->Bool:=λk=>l.any λm=>decide (¬m k=0)
def jL(b:Fin 8->Bool)(m:Fin 8->Int)(n:Nat):Fin 8->Bool:=λk=>if k.val<n then b k || decide (¬m k=0)else b k
theorem Cj{f:Fin 8->Bool}{k:Nat}(a:k<8):Ζ f (k:Int)=f ⟨k,a⟩:=zt f (by rw[Ĕ];exact a)
theorem Zv6{b:Fin 8->Bool}{m:Fin 8->Int}{n:Nat}(a:n<8):ε (jL b m n) n (b ⟨n,a⟩ || decide (¬m ⟨n,a⟩=0))=jL b m (n+1):=by
 funext k;unfold ε jL;by_cases e:k.val=n
 .have:k=⟨n,a⟩:=abh e;subst this;rw[ą rfl,ą (Ũ _)]
 rw[ā e];by_cases h:k.val<n
 .rw[ą h,ą ŉ]
 rw[ā h,ā ŉ]
theorem ZyW{m:Fin 8->Int}{b:Fin 8->Bool}(h:∀k,-1<=m k/\m k<=3)(j:∀k,m k<0->b k=true):(PS m (0,b)).ω (.inr (jL b m 8)):=by
 refine Cq.Zn 8 (λk s=>s=((k:Int),jL b m k)) (λk s c d=>?_) (λs d=>?_) (by show _=_;congr 1)
 .subst d;have hr:=h ⟨k,c⟩;have f:Ζ m (k:Int)=m ⟨k,c⟩:=Õ c;have d:Ζ (jL b m k) (k:Int)=b ⟨k,c⟩:=by rw[Cj c];unfold jL;rw[if_neg (Nat.lt_irrefl _)]
  have i:(Et m (k:Int) (jL b m k)).wp (Out (λs'=>s'=(((k+1:Nat):Int),jL b m (k+1))) λo=>o=.inr (jL b m 8)):=by
   refine⟨⟨ŉ,ŉ⟩,?_⟩;have e:=Zv6 (b:=b) (m:=m) c;by_cases a:b ⟨k,c⟩=true
   .refine Cq.wp.yes (by rw[d];exact a) ⟨⟨ŉ,ŉ⟩,?_⟩;show _=_;rw[χ ŉ,<-e,a];rfl
   refine Cq.wp.no (by rw[d];exact a) ⟨⟨ŉ,ŉ⟩,?_⟩;show _=_;rw[χ ŉ,<-e,Ů.2 a,f];rfl
  refine Cq.wp.yes ŉ ⟨⟨ŉ,ŉ⟩,Cq.wp.no (by rw[f];omega) (Cq.wp.no (by rw[f];omega) ?_)⟩;by_cases g:m ⟨k,c⟩<0
  .refine Cq.wp.yes (by rw[f];exact g) ⟨⟨ŉ,ŉ⟩,Cq.wp.no (by rw[d,j _ g];decide) i⟩
  exact Cq.wp.no (by rw[f];exact g) i
 subst d;exact Cq.wp.no ĳ rfl
theorem Fq{o:Ord}(h:kK o):(yM o).ω true:=by
 have l:=h.len;refine Cq.wp.no ŉ ?_;show(Cq.next _ _).wp _;refine Cq.Zn o.length (λi s=>s=((i:Int),sX (o.take i))) (λi s hi e=>?_) (λs e=>?_) rfl
 .subst e;refine Cq.wp.yes ŉ ⟨_,Λ hi,Cq.fj (ZyW (h.row _ (Ă hi)) λk j=>?_) ?_⟩
  .have a:=h.V6 k;rw[<-Ņ (i+1) o,Ĭ]at a;have a:=ZvF a;rw[Qb hi (λm=>m k),Q5]at a;by_cases c:gj ((o.take i).map λm=>m k)=0
   .rw[ą c]at a;omega
   unfold sX;rw[dI];unfold gj at c;cases d:((o.take i).map λm=>m k).find? λx=>x != 0 with
   |none=>rw[d]at c;exact absurd rfl c
   |some y=>
    have f:=aak d;have h2:=aaT d;obtain⟨m,g,rfl⟩:=ğ.1 f;exact⟨m,g,by simpa using h2⟩
  show _=_;rw[χ ŉ,č hi];congr 2;funext k;unfold jL sX;rw[ą k.isLt,List.any_append];simp
 subst e;exact Cq.wp.no ŉ rfl
theorem Zyz:(á 0 7 λk=>runs 20 (K1 (u8.wrap (1*2 ^ (min k.toNat u8.bits)))) (jm k.toNat 1))=true:=by decide +kernel
theorem Zy4{k:Nat}(a:k<8):(F2 (k:Int) 1).ω (jm k 1):=⟨⟨ŉ,ŉ⟩,by
 show _=_;funext i;unfold ε jm;rw[Ĕ]⟩
theorem Rq(o:Ord){k:Nat}(a:k<8):o++gV.take (k+1)=(o++gV.take k)++[jm k 1]:=by
 have c:k<gV.length:=by simpa[gV]using a
 rw[č c,ď];simp[gV]
theorem Zxt{o:Ord}(h:mF o=true):(Fc o).ω ((ô o o.length).length:Int)/\(F1 o).ω ((ô o o.length).length:Int):=by unfold mF at h;simp only[ĉ,Ě]at h;obtain⟨⟨⟨⟨⟨a,h2⟩,_⟩,c⟩,d⟩,e⟩:=h;exact⟨by have:=Zwh ŉ a d;rwa [e]at this,Zwo ŉ c⟩
theorem ZxX{o:Ord}(h:mF o=true)(j:(ô o o.length).length=8\/o.length<=16):(K0 o).ω (eP o,0)/\(LP o).ω (eP o,0):=by
 have i:=kK.of h;obtain⟨m,n⟩:=Zxt h;have p:=i.len;have d:([]++o).length<=small:=by rw[ķ];simp only[small];omega
 have l:gV.take 8=gV:=ě (by simp[gV]);constructor
 .refine⟨_,Fq i,Cq.wp.no ĳ ⟨o,⟨λe=>by rw[e];rfl,d,rfl⟩,_,m,?_⟩⟩;by_cases a:(ô o o.length).length=8
  .refine Cq.wp.yes ŉ ?_;show _=_;unfold eP;rw[ą a]
  have g:=j.resolve_left a;refine Cq.wp.no ŉ (Cq.wp.no (by rw[wrap64 ŉ];omega) ?_);show(Cq.next _ _).wp _;refine Cq.Zn 8 (λk s=>s=(o++gV.take k,(k:Int))) (λk s f c=>?_) (λs c=>?_) (by show _=_;simp)
  .subst c;have:=Zu (Zs Zyz (x:=(k:Int)) ŉ ŉ);refine Cq.wp.yes ŉ ⟨ŉ,_,this,by simp only[Ā,Č,Ę,ĺ];simp only[small];omega,?_⟩;show _=_;rw[χ ŉ,Rq o f];rfl
  subst c;refine Cq.wp.no ĳ ?_;show _=_;unfold eP;rw[ā a,l]
 refine⟨_,E0 i,Cq.wp.no ĳ ⟨d,_,n,?_⟩⟩;by_cases a:(ô o o.length).length=8
 .refine Cq.wp.yes ŉ ?_;show _=_;unfold eP;rw[ą a];rfl
 have g:=j.resolve_left a;refine Cq.wp.no ŉ (Cq.wp.no ŉ ?_);show(Cq.next _ _).wp _;refine Cq.Zn 8 (λk s=>s=(o++gV.take k,(k:Int))) (λk s f c=>?_) (λs c=>?_) (by show _=_;simp)
 .subst c;refine Cq.wp.yes ŉ ⟨_,Zy4 f,by simp only[Ā,Č,Ę,ĺ];simp only[small];omega,?_⟩;show _=_;rw[χ ŉ,Rq o f]
 subst c;refine Cq.wp.no ĳ ?_;show _=_;unfold eP;rw[ā a,l]
theorem ZyM{π:Fin 8->Int}(h:Ì π){V:Ord}{k:Nat}(d:k<V.length)(e:V[k]=λ_=>0)(m:Fin 8->Int):(PF π (k:Int) m (V,0)).ω (V.set k (fx π m)):=by
 refine Cq.Zn 8 (λj s=>s=(V.set k (ep π m j),(j:Int))) (λj s a c=>?_) (λs c=>?_) (by show _=_;rw[show ep π m 0=V[k]from e.symm,LW d];rfl)
 .subst c;have r:=h.oI ⟨j,a⟩;refine Cq.wp.yes ŉ ⟨⟨ŉ,ŉ⟩,⟨ŉ,ŉ⟩,_,GD d _,by rw[Õ a];exact r,?_⟩;show _=_;rw[χ ŉ,Õ a,Õ a,Ĕ,List.set_set];simp only[ep,ŷ a]
 subst c;exact Cq.wp.no ĳ rfl
theorem Tb{π:Fin 8->Int}(c:Ì π){o:Ord}(h:mF o=true)(v:(ô o o.length).length=8\/o.length<=16):(Ka o π).ω (dN π (eP o),0)/\(Kk o π).ω (dN π (eP o),0):=by
 have t:=kK.of h;obtain⟨f1,f2⟩:=ZxX h v;have x:(eP o).length<=40:=by
  have:=t.len;unfold eP;split
  .omega
  rw[Ā];simp[gV];omega
 generalize eP o=F at *;constructor
 .refine⟨_,Fq t,Cq.wp.no ĳ ?_⟩;show(Cq.next _ _).wp _;refine Cq.Zn 8 (λk s=>∃p:Fin 8->Bool,s=((k:Int),p)/\∀j,p j=true->∃i:Fin 8,i.val<k/\(j.val:Int)=π i) (λk s d a=>?_) (λs a=>?_) ⟨_,rfl,λj f=>by cases f⟩
  .obtain⟨p,rfl,q⟩:=a;have r:=c.oI ⟨k,d⟩;refine Cq.wp.yes ŉ ⟨⟨ŉ,ŉ⟩,?_⟩;rw[Õ d];refine Cq.wp.no ŉ (Cq.wp.no ŉ ⟨r,Cq.wp.no (GC c d q) ⟨r,?_⟩⟩);rw[χ ŉ];exact⟨_,rfl,FG c d q⟩
  obtain⟨p,rfl,q⟩:=a;refine Cq.wp.no ĳ ?_;show(PG o π).wp _;refine⟨_,f1,Cq.wp.no (λe=>e rfl) ⟨⟨ŉ,by show((F.length:Nat):Int)<=1000000;omega⟩,?_⟩⟩;rw[Ĕ];show(Cq.next _ _).wp _;have n:(dN π F).length=(List.replicate F.length (λ_:Fin 8=>(0:Int))).length:=by unfold dN;rw[List.length_map,List.length_replicate]
  refine Cq.Zn F.length (λk s=>s=(fa (dN π F) (List.replicate F.length (λ_=>0)) k,(k:Int))) (λk s d a=>?_) (λs a=>?_) rfl
  .subst a;have g:k<(List.replicate F.length (λ_:Fin 8=>(0:Int))).length:=by rw[ļ];exact d
   have l:k<(fa (dN π F) (List.replicate F.length (λ_=>0)) k).length:=by rw[SJ n];exact g
   have u:(fa (dN π F) (List.replicate F.length (λ_=>0)) k)[k]=λ_=>0:=by have:=L0 n g;rw[Ą l]at this;rw[Ŧ this,List.getElem_replicate]
   refine Cq.wp.yes (by show(k:Int)<((F.length:Nat):Int);omega) ⟨_,Λ d,Cq.fj (ZyM c l u F[k]) ?_⟩;show _=_;rw[χ ŉ,<-Bb n g];congr 3;simp[dN]
  subst a;refine Cq.wp.no (by show ¬(F.length:Int)<((F.length:Nat):Int);omega) ?_;show _=_;rw[Fa n (by rw[n,ļ];exact Ċ _)]
 refine⟨_,E0 t,Cq.wp.no ĳ ⟨_,Zl4 c,Cq.wp.no ĳ ⟨_,f2,Cq.wp.no (λe=>e rfl) ?_⟩⟩⟩;show(Cq.next _ _).wp _;refine Cq.Zn F.length (λk s=>s=(dN π (F.take k),(k:Int))) (λk s d a=>?_) (λs a=>?_) rfl
 .subst a;have m:(PZ π (F,0) (k:Int) (0,λ_=>0)).ω (fx π F[k]):=by
   refine Cq.Zn 8 (λj s=>s=((j:Int),ep π F[k] j)) (λj s f a=>?_) (λs a=>?_) rfl
   .subst a;have r:=c.oI ⟨j,f⟩;refine Cq.wp.yes ŉ ⟨⟨ŉ,ŉ⟩,F[k],Λ d,⟨ŉ,ŉ⟩,by rw[Õ f];exact r,?_⟩;show _=_;rw[χ ŉ,Õ f,Õ f];simp only[ep,ŷ f]
   subst a;exact Cq.wp.no ĳ rfl
  refine Cq.wp.yes (by show(k:Int)<((F.length:Nat):Int);omega) (Cq.fj m ⟨by unfold dN;simp only[List.length_append,List.length_map,List.length_take,List.length_cons,List.length_nil];simp only[small];omega,?_⟩);show _=_;rw[χ ŉ,č d];unfold dN;rw[Ĭ];rfl
 subst a;refine Cq.wp.no (by show ¬(F.length:Int)<((F.length:Nat):Int);omega) ?_;show _=_;rw[ĥ]
end Go.EL

namespace Go.EL
open Go.IntKind (i8 i16 i32 i64 u8 u16 u32 u64)
open Go Go.RowKit
theorem Zxo:(((Α 1)++(Α 2)).all λπ=>(Α 3).any λσ=>decide (σ=π))=true:=by decide +kernel
theorem yo{n:Nat}(h:1<=n/\n<=3){π:Fin 8->Int}(a:π∈Α n):π∈Α 3:=by
 have key:∀σ∈Α 1++Α 2,σ∈Α 3:=λσ c=>by obtain⟨τ,d,h2⟩:=dI.1 (Ć.1 Zxo σ c);rw[<-Ĥ h2];exact d
 match n,h with
 |1,_=>exact key _ (List.mem_append_left _ a)
 |2,_=>exact key _ (List.mem_append_right _ a)
 |3,_=>exact a
def ka(o:Ord):Prop:=o∈kU\/∃f∈kU,∃π∈Α 3,o=dN π (eP f)
theorem Sw{o:Ord}(h:sL o=true):mF o=true/\(ô o o.length).length=8:=by unfold sL at h;rw[ĉ]at h;exact⟨h.1,ĸ h.2⟩
theorem ka.b{o:Ord}(h:ka o):mF o=true/\((ô o o.length).length=8\/o.length<=16):=by
 rcases h with h|⟨f,d,π,a,rfl⟩
 .have:=Ć.1 ZAd o h;rw[ĉ,Ě]at this;exact this
 obtain⟨c,h2⟩:=Sw (Uz f d π a);exact⟨c,.inl h2⟩
theorem ZvV{σ τ:Fin 8->Int}(a:σ∈Α 3)(c:τ∈Α 3)(o:Ord):dN σ (dN τ o)=dN (gY σ τ) o:=by unfold dN;rw[aac];exact ů λm _=>Sz ⟨ĳ,ĳ⟩ a c m
theorem ka.full{o:Ord}(h:ka o):eP (eP o)=eP o/\∀π∈Α 3,ka (dN π (eP o))/\eP (dN π (eP o))=dN π (eP o):=by
 have key:∀f∈kU,∀π∈Α 3,eP (dN π (eP f))=dN π (eP f):=λf d π a=>by obtain⟨l,h2⟩:=Sw (Uz f d π a);exact ą h2
 have e:(λi:Fin 8=>(i.val:Int))∈Α 3:=by rw[vv];exact aar
 have g:∀o:Ord,dN (λi=>(i.val:Int)) o=o:=λo=>by unfold dN;have:∀m∈o,fx (λi=>(i.val:Int)) m=m:=λm _=>funext λj=>ue (oz ⟨ĳ,ĳ⟩ e).perm m j j rfl;rw[ů this,List.map_id']
 rcases h with h|⟨f,d,τ,c,rfl⟩
 .refine⟨?_,λπ a=>⟨.inr ⟨o,h,π,a,rfl⟩,key o h π a⟩⟩;have:=key o h _ e;rwa [g]at this
 rw[key f d τ c];refine⟨key f d τ c,λπ a=>?_⟩;rw[ZvV a c];have k:=(mX (n:=3) ⟨ĳ,ĳ⟩ c).1 π a;exact⟨.inr ⟨f,d,_,k,rfl⟩,key f d _ k⟩
structure fb (q:Zc):Prop where
 p:ψ q.p
 o:ka q.o
theorem fb.w{q:Zc}(h:fb q):rQ q:=⟨h.p,by have:=(kK.of h.o.b.1).len;omega⟩
theorem fb.nil(kind:Int):fb ⟨kind,[],[]⟩:=⟨(ψ.of ĳ:ψ []),.inl (by unfold kU;simp)⟩
theorem FJ{p:Ó}{n:Nat}:lI n p↔(ð p).toNat<2 ^ n:=by
 rw[<-yW,Ű];constructor
 .intro h;rcases eF.1 h with h|h
  .have:=aad n;omega
  exact h
 exact aaL
def fe(k:Zd)(q:Zc):Bool:=decide (1<=q.kind/\q.kind<=10)&&Ð q.p k.n&&(decide (q.kind=1\/q.kind=7\/q.kind=9) || decide (q.p=[]))&&(decide (q.kind=3) || decide (q.o=[]))
theorem Sd(q:Zc):(Ep q).ω (decide (q.kind=1\/q.kind=7\/q.kind=9) || decide (q.p=[])):=by
 have e:decide ((q.p.length:Int)=0)=decide (q.p=[]):=by
  cases q.p with
  |nil=>rfl
  |cons a l=>simp;omega
 by_cases c:q.kind=1
 .exact Cq.wp.yes c (Cq.wp.yes c (by show _=_;rw[ă (Or.inl c)];rfl))
 by_cases h7:q.kind=7
 .exact Cq.wp.no c (Cq.wp.yes h7 (Cq.wp.yes h7 (by show _=_;rw[ă (Or.inr (Or.inl h7))];rfl)))
 by_cases d:q.kind=9
 .exact Cq.wp.no c (Cq.wp.no h7 (Cq.wp.yes d (by show _=_;rw[ă (Or.inr (Or.inr d))];rfl)))
 refine Cq.wp.no c (Cq.wp.no h7 (Cq.wp.no d ?_));show _=_;rw[e,Ĉ (p:=q.kind=1\/_) ŉ,Ł]
theorem Zv2{q:Zc}(h:fb q):(Kg q).ω ((decide (q.kind=1\/q.kind=7\/q.kind=9) || decide (q.p=[]))&&(decide (q.kind=3) || decide (q.o=[]))):=by
 refine⟨true,Fq (kK.of h.o.b.1),?_⟩;cases c:q.o with
 |nil=>
  refine Cq.wp.no ĳ ?_;rw[ă (p:=([]:Ord)=[]) rfl,abE,abT];exact Sd q
 |cons a l=>
  refine Cq.wp.yes (by rw[Ę];omega) ?_;rw[Ĉ (p:=a::l=[]) ß,abU];by_cases h3:q.kind=3
  .refine Cq.wp.no (λe=>e h3) ?_;rw[ă h3,abT];exact Sd q
  refine Cq.wp.yes h3 ?_;show _=_;rw[Ĉ h3,Bool.and_false]
theorem Tk{k:Zd}(v:1<=k.n/\k.n<=4){q:Zc}(h:fb q):(Fe k q).ω (fe k q):=by
 unfold fe;by_cases i:q.kind<1
 .refine Cq.wp.yes i ?_;show _=_;rw[Ĉ (p:=1<=q.kind/\_) ŉ];rfl
 by_cases c:10<q.kind
 .refine Cq.wp.no i (Cq.wp.yes c ?_);show _=_;rw[Ĉ (p:=1<=q.kind/\_) ŉ];rfl
 rw[ă (p:=1<=q.kind/\q.kind<=10) ŉ,Ť];refine Cq.wp.no i (Cq.wp.no c ⟨true,Eb h.p,_,yK h.p,?_⟩);obtain⟨n,s⟩:∃n:Nat,k.n=(n:Int):=⟨k.n.toNat,ŉ⟩;rw[s]at v⊢;have nR:1<=n/\n<=4:=ŉ;by_cases m:12<gi q.p
 .refine Cq.wp.yes m ?_;show _=_;have:Ð q.p (n:Int)=false:=by
   cases j:Ð q.p (n:Int)with
   |false=>rfl
   |true=>have:=(FA j).2;omega
  rw[this];rfl
 refine Cq.wp.no m ⟨_,FY h.p.len,ŉ,?_⟩;have x:=uf q.p;have d:∀t∈q.p,fH t.m<=12:=(tD ĳ).1 ŉ;have a:(Int.fdiv (ð q.p) (2 ^ (min (n:Int).toNat u8.bits))=0)↔(ð q.p).toNat<2 ^ n:=by
  obtain⟨u,l⟩:∃u:Nat,ð q.p=(u:Int):=⟨(ð q.p).toNat,ŉ⟩;have r:Int.fdiv (ð q.p) (2 ^ (min (n:Int).toNat u8.bits))=((u / 2 ^ n:Nat):Int):=by rw[l,Ĕ,Ż (show n<=u8.bits from ŋ nR.2 ĳ),aah _ (Int.le_of_lt (Int.pow_pos ĳ))];push_cast;rfl
  rw[r,l,Ĕ];have hp:=aad n;constructor
  .intro g;have g:u / 2 ^ n=0:=ŉ;rcases eF.1 g with h|h
   .omega
   exact h
  intro g;rw[aaL g];rfl
 by_cases f:(ð q.p).toNat<2 ^ n
 .refine Cq.wp.no (λe=>e (a.2 f)) ?_;rw[(pI ŉ).2 ⟨FJ.2 f,d⟩,Ť];exact Zv2 h
 refine Cq.wp.yes (λe=>f (a.1 e)) ?_;show _=_;have:Ð q.p (n:Int)=false:=by
  cases j:Ð q.p (n:Int)with
  |false=>rfl
  |true=>exact absurd (FJ.1 ((pI ŉ).1 j).1) f
 rw[this];rfl
end Go.EL

namespace Go.EL
open Go.IntKind (i8 i16 i32 i64 u8 u16 u32 u64)
open Go Go.RowKit
theorem LI(kind:Int):(EB kind).ω (decide (kind=1\/kind=7\/kind=9)):=by
 by_cases a:kind=1
 .exact Cq.wp.yes a (by show _=_;rw[ă (Or.inl a)])
 by_cases h7:kind=7
 .exact Cq.wp.no a (Cq.wp.yes h7 (by show _=_;rw[ă (Or.inr (Or.inl h7))]))
 refine Cq.wp.no a (Cq.wp.no h7 ?_);show _=_;by_cases c:kind=9
 .rw[ă c,ă (p:=kind=1\/_) ŉ]
 rw[Ĉ c,Ĉ (p:=kind=1\/_) ŉ]
theorem ZtO(q:Zc):(JT q).ω ((decide (q.kind=1\/q.kind=7\/q.kind=9) || decide (q.p=[]))&&(decide (q.kind=3) || decide (q.o=[]))):=by
 have key:((if(q.o.length:Int)=0 then Cq.ret true else Cq.ret (decide (q.kind=3))):Cq Bool).ω (decide (q.kind=3) || decide (q.o=[])):=by
  cases c:q.o with
  |nil=>exact Cq.wp.yes rfl (by show _=_;simp)
  |cons a l=>exact Cq.wp.no (by rw[Ę];omega) (by show _=_;simp)
 cases hp:q.p with
 |nil=>
  refine Cq.wp.yes (by rw[hp];rfl) ?_;rw[ă (p:=([]:Ó)=[]) rfl,abE,Ť];exact key
 |cons a l=>
  refine Cq.wp.no (by rw[hp,Ę];omega) ⟨_,LI _,?_⟩;rw[Ĉ (p:=a::l=[]) ß,abU];cases decide (q.kind=1\/q.kind=7\/q.kind=9)with
  |false=>rfl
  |true=>rw[Ť];exact key
theorem Zvr{k:Zd}(m:1<=k.n/\k.n<=4){q:Zc}(h:fb q):(Lb k q).ω (fe k q):=by
 unfold fe;by_cases f:q.kind<1
 .refine Cq.wp.yes f ?_;show _=_;rw[Ĉ (p:=1<=q.kind/\_) ŉ];rfl
 by_cases a:10<q.kind
 .refine Cq.wp.no f (Cq.wp.yes a ?_);show _=_;rw[Ĉ (p:=1<=q.kind/\_) ŉ];rfl
 rw[ă (p:=1<=q.kind/\q.kind<=10) ŉ,Ť];refine Cq.wp.no f (Cq.wp.no a ⟨true,As h.p,_,wZ h.p,?_⟩);obtain⟨n,l⟩:∃n:Nat,k.n=(n:Int):=⟨k.n.toNat,ŉ⟩;rw[l]at m⊢;have nR:1<=n/\n<=4:=ŉ;by_cases i:12<gi q.p
 .refine Cq.wp.yes i ?_;show _=_;have:Ð q.p (n:Int)=false:=by
   cases g:Ð q.p (n:Int)with
   |false=>rfl
   |true=>have:=(FA g).2;omega
  rw[this];rfl
 have r:=uf q.p;have c:∀t∈q.p,fH t.m<=12:=(tD ĳ).1 ŉ;have e:u64.wrap (n:Int)=(n:Int):=qL ⟨ŉ,ŉ⟩;have d:i64.wrap (1*2 ^ (min (n:Int).toNat i64.bits))=((2 ^ n:Nat):Int):=by
  match n,nR with
  |1,_=>rfl
  |2,_=>rfl
  |3,_=>rfl
  |4,_=>rfl
 refine Cq.wp.no i ⟨_,AH h.p.len,by rw[e];omega,?_⟩;rw[e,d,wrap64 ŉ];by_cases j:(ð q.p).toNat<2 ^ n
 .refine Cq.wp.no ŉ ⟨true,E0 (kK.of h.o.b.1),Cq.wp.no ĳ ?_⟩;rw[(pI ŉ).2 ⟨FJ.2 j,c⟩,Ť];exact ZtO q
 refine Cq.wp.yes ŉ ?_;show _=_;have:Ð q.p (n:Int)=false:=by
  cases g:Ð q.p (n:Int)with
  |false=>rfl
  |true=>exact absurd (FJ.1 ((pI ŉ).1 g).1) j
 rw[this];rfl
structure Ñ (k:Zd):Prop where
 ok:å k
 n3:k.n<=3
theorem Ñ.nn{k:Zd}(h:Ñ k):1<=k.n.toNat/\k.n.toNat<=3:=by have:=h.ok.n;have:=h.n3;omega
theorem Ñ.perm{k:Zd}(h:Ñ k):(Χ k).2∈Α k.n.toNat:=by obtain⟨ρ,a,e⟩:=(E5 k).1;rw[e];exact a
theorem Ñ.lW{k:Zd}(h:Ñ k):(Χ k).2∈Α 3:=yo h.nn h.perm
theorem Ñ.canon{k:Zd}(h:Ñ k):Ñ (Χ k).1:=by refine⟨Zvx h.ok,?_⟩;obtain⟨ρ,a,e⟩:=(E5 k).1;rw[e];show(þ k ρ).n<=3;rw[ze h.ok a];exact h.n3
theorem Ñ.Vh{k:Zd}(h:Ñ k):(Χ k).1.n=k.n:=by obtain⟨ρ,a,e⟩:=(E5 k).1;rw[e];show(þ k ρ).n=k.n;rw[ze h.ok a]
def eJ(q:Zc)(π:Fin 8->Int):Zc:=⟨q.kind,à π q.p,if q.kind=3 then dN π (eP q.o)else[]⟩
theorem iV{π:Fin 8->Int}(h:π∈Α 3):Ì π:=(oz ⟨ĳ,ĳ⟩ h).perm
theorem Lj{q:Zc}(h:fb q){π:Fin 8->Int}(a:π∈Α 3):fb (eJ q π):=by
 refine⟨oQ (iV a) h.p,?_⟩;unfold eJ;dsimp only;split
 .exact (h.o.full.2 π a).1
 exact(fb.nil 0).o
theorem Qu{q:Zc}(h:fb q){π:Fin 8->Int}(a:π∈Α 3):(Ev q π).ω (eJ q π,0):=by
 refine⟨_,Rs (iV a) h.p,Cq.wp.no (λe=>e rfl) ?_⟩;unfold eJ;by_cases h3:q.kind=3
 .refine Cq.wp.yes h3 ⟨_,(Tb (iV a) h.o.b.1 h.o.b.2).1,Cq.wp.no (λe=>e rfl) ?_⟩;show _=_;rw[ą h3]
 refine Cq.wp.no h3 ?_;show _=_;rw[ā h3]
def fv(k:Zd)(q:Zc):ZF:=if fe k q=true then⟨(Χ k).1,eJ q (Χ k).2,0⟩else⟨hK,⟨0,[],[]⟩,1⟩
theorem EZ{k:Zd}{q:Zc}(c:Ñ k)(h:fb q):(xA k q).ω (fv k q):=by
 have a:=c.lW;refine⟨true,Kq c.ok,_,Zvr c.ok.n h,?_⟩;unfold fv;cases hr:fe k q with
 |false=>exact Cq.wp.yes rfl (by show _=_;rw[ā ĳ];rfl)
 |true=>
  rw[ą rfl];refine Cq.wp.no ĳ ⟨_,Zvk c.ok,_,Jw (iV a) h.p,?_⟩;unfold eJ;by_cases h3:q.kind=3
  .refine Cq.wp.yes h3 ⟨_,(Tb (iV a) h.o.b.1 h.o.b.2).2,Cq.wp.no (λe=>e rfl) ?_⟩;show _=_;rw[ą h3]
  refine Cq.wp.no h3 (Cq.wp.no (λe=>e rfl) ?_);show _=_;rw[ā h3]
structure kv (t:Zb):Prop where
 k:jx t.k
 q:rQ t.q
def mz(k:Zd)(q:Zc)(t:Zb):Bool:=decide (û t.k=û k)&&decide (gR t.q=gR q)
def pO(l:Ŀ Zb)(k:Zd)(q:Zc):Int:=match l.findIdx? (mz k q)with
 |some i=>(i:Int)
 |none=>-1
theorem MC{b:Ze}(u:b.t.length<=1000)(h:∀t∈b.t,kv t){k:Zd}{q:Zc}(p:jx k)(r:rQ q):(BB b k q).ω (pO b.t k q):=by
 have key:∀(m i:Nat),m+i=b.t.length->(Fv b k q (i:Int)).wp λo=>o=(match(b.t.drop i).findIdx? (mz k q)with|some j=>.inl ((i+j:Nat):Int)|none=>.inr ()):=by
  intro m;induction m with
  |zero=>
   intro i hi;refine Cq.Zt (Cq.wp.no ŉ ?_);rw[Ĺ ŉ];rfl
  |succ m s=>
   intro i hi;have c:i<b.t.length:=ŉ;have n:=h _ (Ă c);have l:b.t.drop i=b.t[i]::b.t.drop (i+1):=į c;have a:mz k q b.t[i]=false->(Fv b k q ((i+1:Nat):Int)).wp λo=>o=(match(b.t.drop i).findIdx? (mz k q)with|some j=>.inl ((i+j:Nat):Int)|none=>.inr ()):=λe=>by
    refine Cq.mono _ (λo g=>?_) (s (i+1) ŉ);rw[g,l,List.findIdx?_cons,e];cases(b.t.drop (i+1)).findIdx? (mz k q)with
    |none=>rfl
    |some j=>show Sum.inl ((i+1+j:Nat):Int)=Sum.inl ((i+(j+1):Nat):Int);rw[show i+1+j=i+(j+1) by omega]
   refine Cq.Zt (Cq.wp.yes ŉ ⟨_,Λ c,_,Fw n.k p,?_⟩);cases f:decide (û b.t[i].k=û k)with
   |false=>
    show(Cq.loop _ _).wp _;rw[χ ŉ];exact a (by unfold mz;rw[f];rfl)
   |true=>
    refine⟨_,Λ c,_,Le n.q r,?_⟩;cases d:decide (gR b.t[i].q=gR q)with
    |true=>
     refine Cq.wp.yes rfl ?_;show _=_;rw[l,List.findIdx?_cons,show mz k q b.t[i]=true by unfold mz;rw[f,d];rfl];rfl
    |false=>
     refine Cq.wp.no ĳ ?_;show(Cq.loop _ _).wp _;rw[χ ŉ];exact a (by unfold mz;rw[f,d];rfl)
 show(Cq.next _ _).wp _;refine Cq.mono (Fv b k q 0) (λo g=>?_) (key b.t.length 0 ŉ);rw[g,abd];unfold pO;cases b.t.findIdx? (mz k q)with
 |none=>rfl
 |some j=>show _=_;rw[ņ]
end Go.EL

namespace Go.EL
open Go.IntKind (i8 i16 i32 i64 u8 u16 u32 u64)
open Go Go.RowKit
abbrev qV:Fin 8->Int:=λi=>(i.val:Int)
theorem ZtS{k:Zd}(h:å k):Χ (Χ k).1=((Χ k).1,qV):=by
 have l:1<=k.n.toNat/\k.n.toNat<=4:=by have:=h.n;omega
 obtain⟨⟨ρ,d,m⟩,n⟩:=E5 k;have f:(Χ k).1=þ k ρ:=by rw[m]
 have g:(Χ k).1.n=k.n:=by rw[f,ze h d]
 have i:qV∈Α k.n.toNat:=by rw[vv];exact aar
 have c:þ (Χ k).1 qV=(Χ k).1:=by rw[f,Sy h i d,id_comp l d]
 have j:∀π∈Α k.n.toNat,¬Op.bytesLess (û (þ (Χ k).1 π)).toList (û (Χ k).1).toList=true:=λπ a=>by rw[show þ (Χ k).1 π=þ k (gY π ρ) by rw[f,Sy h a d]];exact n _ ((mX l d).1 π a)
 have e:Χ (Χ k).1=fm (Χ k).1 (Α (Χ k).1.n.toNat).tail (þ (Χ k).1 qV,qV):=rfl;rw[e,c,g];exact S6 _ _ _ λπ a=>j π (List.mem_of_mem_tail a)
theorem NN:qV∈Α 3:=by rw[vv];exact aar
theorem ZyE(o:Ord):dN qV o=o:=by unfold dN;have:∀m∈o,fx qV m=m:=λm _=>funext λj=>ue (iV NN) m j j rfl;rw[ů this,List.map_id']
theorem ZpT{q:Zc}(h:fb q){π:Fin 8->Int}(a:π∈Α 3):eJ (eJ q π) qV=eJ q π:=by
 have hp:=ZyF (n:=3) ⟨ĳ,ĳ⟩ (oQ (iV a) h.p);show Zc.mk q.kind (à qV (à π q.p)) (if q.kind=3 then dN qV (eP (if q.kind=3 then dN π (eP q.o)else[]))else[])=Zc.mk q.kind (à π q.p) (if q.kind=3 then dN π (eP q.o)else[]);rw[hp];by_cases h3:q.kind=3
 .rw[ą h3,ą h3,ZyE,(h.o.full.2 π a).2]
 rw[ā h3,ā h3]
theorem Ly{kind:Int}{x:Zc}(h:x∈ë kind):x=⟨x.kind,[],[]⟩/\(x.kind=4\/x.kind=5\/x.kind=6):=by
 unfold ë at h;split at h
 .rw[đ.1 h];exact⟨rfl,ĳ⟩
 split at h
 .rw[đ.1 h];exact⟨rfl,ĳ⟩
 split at h
 .rw[đ.1 h];exact⟨rfl,ĳ⟩
 cases h
theorem AF{kind:Int}{x:Zc}(h:x∈ë kind)(π:Fin 8->Int):eJ x π=x:=by obtain⟨e,a⟩:=Ly h;rw[e];show Zc.mk x.kind (à π []) (if x.kind=3 then _ else[])=_;rw[ā ŉ,Tc]
theorem AG{kind:Int}{x:Zc}(h:x∈ë kind){k:Zd}(c:å k):fe k x=true:=by
 obtain⟨e,g⟩:=Ly h;have f:Ð [] k.n=true:=by obtain⟨n,d⟩:∃n:Nat,k.n=(n:Int):=⟨k.n.toNat,by have:=c.n;omega⟩;have:=c.n;rw[d];exact(pI ŉ).2 ⟨λt a=>(nomatch a),λt a=>(nomatch a)⟩
 rw[e];unfold fe;dsimp only;rw[f,ă (p:=1<=x.kind/\x.kind<=10) ŉ];simp
theorem Bp{kind:Int}{x:Zc}(h:x∈ë kind):fb x:=by rw[(Ly h).1];exact fb.nil _
def wL(k:Zd):Prop:=Ñ k/\Χ k=(k,qV)
theorem Ñ.can{k:Zd}(h:Ñ k):wL (Χ k).1:=⟨h.canon,ZtS h.ok⟩
structure iN (k:Zd) (q:Zc):Prop where
 ck:wL k
 cq:fb q
 self:eJ q qV=q
 right:fe k q=true
theorem ZwV{k:Zd}(h:Ñ k){p:Ó}(hp:ψ p)(c:Ð p k.n=true):Ð (à (Χ k).2 p) (Χ k).1.n=true:=by rw[h.Vh];have d:=h.ok.n;obtain⟨n,a⟩:∃n:Nat,k.n=(n:Int):=⟨k.n.toNat,ŉ⟩;rw[a]at c⊢;have:=h.perm;rw[a,Ĕ]at this;exact SL ŉ (oz ŉ this) hp c
theorem Zt5{k:Zd}(h:Ñ k){q:Zc}(e:fb q)(hr:fe k q=true):fe (Χ k).1 (eJ q (Χ k).2)=true:=by
 unfold fe at hr⊢;simp only[ĉ]at hr⊢;obtain⟨⟨⟨c,h2⟩,h3⟩,d⟩:=hr;refine⟨⟨⟨c,ZwV h e.p h2⟩,?_⟩,?_⟩
 .rw[Ķ]at h3⊢;rcases h3 with h3|h3
  .exact .inl h3
  refine .inr (ă ?_);show à _ q.p=[];rw[Ĥ h3,Tc]
 rw[Ķ]at d⊢;by_cases a:q.kind=3
 .exact .inl (ă a)
 refine .inr (ă ?_);show(if q.kind=3 then _ else[])=([]:Ord);rw[ā a]
theorem iN.of{k:Zd}(h:Ñ k){q:Zc}(a:fb q)(hr:fe k q=true):iN (Χ k).1 (eJ q (Χ k).2):=
 ⟨h.can,Lj a h.lW,ZpT a h.lW,Zt5 h a hr⟩
theorem iN.lz{k:Zd}(h:wL k){kind:Int}{x:Zc}(a:x∈ë kind):iN k x:=⟨h,Bp a,AF a _,AG a h.1.ok⟩
theorem iN.fv{k:Zd}{q:Zc}(h:iN k q):fv k q=⟨k,q,0⟩:=by unfold EL.fv;rw[ą h.right,h.ck.2,h.self]
theorem Ua{k m:Zd}{p q:Zc}(a:å k)(c:å m):(û k=û m/\gR p=gR q)↔gM k p=gM m q:=⟨λh=>by unfold gM;rw[h.1,h.2],λh=>Vy a c h⟩
end Go.EL

namespace Go.EL
open Go.IntKind (i8 i16 i32 i64 u8 u16 u32 u64)
open Go Go.RowKit
abbrev dE(t:Zb):Ĳ:=gM t.k t.q
structure ì (B:Ze):Prop where
 can:∀t∈B.t,iN t.k t.q
 ids:∀i (h:i<B.t.length),B.t[i].id=(i:Int)+1
 next:B.next=(B.t.length:Int)+1
 Ú:B.t.Pairwise λs t=>dE s≠dE t
 lz:∀i (h:i<B.t.length),∀x∈ë B.t[i].q.kind,∃j,∃(h2:j<B.t.length),j<i/\dE B.t[j]=gM B.t[i].k x
 num:∀t∈B.t,(0<=t.η/\t.η<=13)/\0<=t.low/\-1<=t.high
def eT(l:Ŀ Zb)(s:Ĳ):ŀ Zb:=l.find? λt=>decide (dE t=s)
theorem KX{l:Ŀ Zb}{s:Ĳ}{t:Zb}(h:eT l s=some t):t∈l/\dE t=s:=⟨aak h,by simpa using aaT h⟩
theorem RW{l:Ŀ Zb}{s:Ĳ}(h:eT l s=none):∀t∈l,dE t≠s:=λt a e=>by have:=List.find?_eq_none.1 h t a;exact this (ă e)
theorem ZvE(l:Ŀ Zb)(t:Zb)(s:Ĳ):eT (l++[t]) s=match eT l s with|some u=>some u|none=>if dE t=s then some t else none:=by
 unfold eT;rw[abl];cases l.find? λt=>decide (dE t=s)with
 |some u=>rfl
 |none=>
  simp only[Option.none_or,abI,List.find?_nil];by_cases h:dE t=s
  .rw[ă h,ą h]
  rw[Ĉ h,ā h]
def lA(B:Ze)(c:Zd)(q:Zc):Zb:=⟨B.next,c,q,0,0,-1,false⟩
def il(B:Ze)(c:Zd)(q:Zc):Ze×Int:=match eT B.t (gM c q)with
 |some t=>(B,t.id)
 |none=>(⟨B.t++[lA B c q],B.next+1⟩,B.next)
def ij:Nat->Ze->Zd->Zc->Ze×Int
 |0,B,_,_=>(B,0)
 |n+1,B,c,q=>il ((ë q.kind).foldl (λb x=>(ij n b c x).1) B) c q
def kA(kind:Int):Nat:=if kind=7 then 4 else if kind=6\/kind=10 then 3 else if kind=5\/kind=8 then 2 else 1
theorem tB(kind:Int):(ë kind=[]/\1<=kA kind)\/∃x,ë kind=[x]/\kA x.kind+1<=kA kind:=by
 unfold ë;split
 .refine .inr ⟨_,rfl,?_⟩;rename_i h;rcases h with rfl|rfl<;>decide
 split
 .refine .inr ⟨_,rfl,?_⟩;rename_i h;rcases h with rfl|rfl<;>decide
 split
 .refine .inr ⟨_,rfl,?_⟩;rename_i h;subst h;decide
 refine .inl ⟨rfl,?_⟩;unfold kA;repeat' split
 all_goals decide
structure Grown (B B':Ze) (m:Nat):Prop where
 ok:ì B'
 pre:B.t <+: B'.t
 len:B'.t.length<=B.t.length+m
theorem T3{B:Ze}(h:ì B){c:Zd}{q:Zc}(p:iN c q)(u:∀x∈ë q.kind,∃t∈B.t,dE t=gM c x):
  Grown B (il B c q).1 1/\∃t∈(il B c q).1.t,dE t=gM c q/\t.id=(il B c q).2:=by
 unfold il
 cases k:eT B.t (gM c q)with
 |some t=>
  obtain⟨m,h2⟩:=KX k
  exact⟨⟨h,List.prefix_rfl,Nat.le_succ _⟩,t,m,h2,rfl⟩
 |none=>
  have g:=RW k
  have f:(B.t++[lA B c q]).length=B.t.length+1:=by rw[Ā];rfl
  refine⟨⟨⟨λt a=>?_,λi hi=>?_,?_,?_,λi hi x d=>?_,λt a=>?_⟩,List.prefix_append _ _,by rw[f];exact Ċ _⟩,lA B c q,ß,rfl,rfl⟩
  .rcases Ħ.1 a with a|a
   .exact h.can t a
   rw[đ.1 a];exact p
  .have hi:i<(B.t++[lA B c q]).length:=hi
   rw[f]at hi
   show(B.t++[lA B c q])[i].id=_
   by_cases e:i<B.t.length
   .rw[eu e];exact h.ids i e
   have:i=B.t.length:=ŉ
   subst this
   rw[abg (Ċ _)]
   simp only[aaY,dw]
   exact h.next
  .show B.next+1=((B.t++[lA B c q]).length:Int)+1
   rw[f,h.next];rfl
  .rw[ej]
   refine⟨h.Ú,ū _ _,λs v t a=>?_⟩
   rw[đ.1 a]
   exact g s v
  .have kB:i<(B.t++[lA B c q]).length:=hi
   rw[f]at kB
   have d:x∈ë ((B.t++[lA B c q])[i]).q.kind:=d
   show ∃j,∃(h2:j<(B.t++[lA B c q]).length),j<i/\dE (B.t++[lA B c q])[j]=gM (B.t++[lA B c q])[i].k x
   by_cases e:i<B.t.length
   .rw[eu e]at d⊢
    obtain⟨j,h2,h3,n⟩:=h.lz i e x d
    exact⟨j,ŉ,h3,by rw[eu h2];exact n⟩
   have:i=B.t.length:=ŉ
   subst this
   rw[abg (Ċ _)]at d⊢
   simp only[aaY,dw]at d⊢
   obtain⟨t,a,r⟩:=u x d
   obtain⟨j,l,e⟩:=Ń.1 a
   exact⟨j,ŉ,l,by rw[eu l,e];exact r⟩
  rcases Ħ.1 a with a|a
  .exact h.num t a
  rw[đ.1 a];exact⟨⟨by show(0:Int)<=0;omega,by show(0:Int)<=13;omega⟩,by show(0:Int)<=0;omega,by show(-1:Int)<=-1;omega⟩
theorem Grown.trans{A B C:Ze}{m n:Nat}(h:Grown A B m)(k:Grown B C n):Grown A C (m+n):=⟨k.ok,h.pre.trans k.pre,by have:=h.len;have:=k.len;omega⟩
theorem Grown.up{A B:Ze}{m n:Nat}(h:Grown A B m)(k:m<=n):Grown A B n:=⟨h.ok,h.pre,by have:=h.len;omega⟩
theorem FZ:∀{n:Nat}{B:Ze}{c:Zd}{q:Zc},kA q.kind<=n->ì B->iN c q->Grown B (ij n B c q).1 (kA q.kind)/\∃t∈(ij n B c q).1.t,dE t=gM c q/\t.id=(ij n B c q).2
 |0,_,_,q,r,_,_=>by
  rcases tB q.kind with ⟨_,h⟩|⟨x,_,h⟩<;>omega
 |n+1,B,c,q,r,k,g=>by
  have e:ij (n+1) B c q=il ((ë q.kind).foldl (λb x=>(ij n b c x).1) B) c q:=rfl;rw[e];rcases tB q.kind with ⟨a,f⟩|⟨x,a,f⟩
  .rw[a];obtain⟨i,k2⟩:=T3 k g (λx d=>by rw[a]at d;cases d);exact⟨i.up f,k2⟩
  rw[a];have d:x∈ë q.kind:=by rw[a];exact đ.2 rfl
  obtain⟨j,t,m,p,s⟩:=FZ (n:=n) (B:=B) (c:=c) (q:=x) ŉ k (iN.lz g.ck d);obtain⟨i,k2⟩:=T3 j.ok g (λy l=>by rw[a,đ]at l;subst l;exact⟨t,m,p⟩);exact⟨(j.trans i).up f,k2⟩
end Go.EL

namespace Go.EL
open Go.IntKind (i8 i16 i32 i64 u8 u16 u32 u64)
open Go Go.RowKit
theorem AY{K V:Type}[DecidableEq K]:∀(D:Ŀ (K×V)) (k:K) (x:V),(eV D k x).length<=D.length+1
 |[],_,_=>Ċ _
 |p::D,k,x=>by have:=AY D k x;unfold eV;split<;>simp only[Ę]<;>omega
structure kr (D:Ŀ (Ĳ×Int)) (l:Ŀ Zb):Prop where
 get:∀s,fi D s=(eT l s).map (·.id)
 len:D.length<=l.length
theorem kr.snoc{D:Ŀ (Ĳ×Int)}{l:Ŀ Zb}(h:kr D l){t:Zb}(a:eT l (dE t)=none):kr (eV D (dE t) t.id) (l++[t]) where
 get s:=by
  rw[y7,ZvE,h.get];by_cases e:dE t=s
  .subst e;rw[ą rfl,a];simp
  rw[ā e];cases eT l s with
  |none=>simp[e]
  |some u=>rfl
 len:=by have:=AY D (dE t) t.id;have:=h.len;rw[Ā];show _<=l.length+1;omega
theorem ì.sh{B:Ze}(h:ì B){t:Zb}(a:t∈B.t):å t.k/\rQ t.q:=⟨(h.can t a).ck.1.ok,(h.can t a).cq.w⟩
theorem Uf{B:Ze}(h:ì B)(m:B.t.length<=98){D:Ŀ (Ĳ×Int)}(a:kr D B.t){c:Zd}{q:Zc}(d:iN c q):
  ∃g,kr g (il B c q).1.t/\(tf c q D B).ω (((il B c q).2,0),g,(il B c q).1):=by
 have i:=zm d.ck.1.ok d.cq.w
 have j:=zd d.ck.1.ok d.cq.w
 have e:=a.get (gM c q)
 unfold il
 cases f:eT B.t (gM c q)with
 |some t=>
  rw[f]at e
  refine⟨D,a,_,i,j,?_⟩
  rw[show fi D (gM c q)=some t.id from e]
  rfl
 |none=>
  rw[f]at e
  have k:=h.next
  refine⟨eV D (gM c q) B.next,a.snoc (t:=lA B c q) f,_,i,j,?_⟩
  rw[show fi D (gM c q)=none from e]
  have l:=AY D (gM c q) B.next
  have h2:=a.len
  refine⟨⟨⟨ŉ,ŉ⟩,by simp only[small];omega⟩,?_⟩
  show _=_
  rw[wrap64 ŉ]
  rfl
theorem VU:∀{n:Nat}{B:Ze}{c:Zd}{q:Zc}{D:Ŀ (Ĳ×Int)},kA q.kind<=n->ì B->iN c q->kr D B.t->B.t.length+kA q.kind<=99->
  ∃a,kr a (ij n B c q).1.t/\(vm n c q D B).ω (((ij n B c q).2,0),a,(ij n B c q).1)
 |0,_,_,q,_,r,_,_,_,_=>by
  rcases tB q.kind with ⟨_,h⟩|⟨x,_,h⟩<;>omega
 |n+1,B,c,q,D,r,i,j,m,A=>by
  have e:ij (n+1) B c q=il ((ë q.kind).foldl (λb x=>(ij n b c x).1) B) c q:=rfl;have g:=(A3 q).1;rw[e];rcases tB q.kind with ⟨f,p⟩|⟨x,f,p⟩
  .rw[f]at g⊢;obtain⟨a,k,k2⟩:=Uf i ŉ m j;exact⟨a,k,_,g,k2⟩
  have s:x∈ë q.kind:=by rw[f];exact đ.2 rfl
  have d:=iN.lz j.ck s;rw[f]at g⊢;obtain⟨v,t,u⟩:=VU (n:=n) (B:=B) (c:=c) (q:=x) (D:=D) ŉ i d m ŉ;obtain⟨l,_⟩:=FZ (n:=n) (B:=B) (c:=c) (q:=x) ŉ i d;have y:=l.len;obtain⟨a,k,k2⟩:=Uf l.ok ŉ t j;exact⟨a,k,_,g,_,u,rfl,k2⟩
theorem Zz7{B:Ze}(h:ì B)(y:B.t.length<=1000):∃D,kr D B.t/\(E3 B (0,[])).ω D:=by
 have key:∀k,k<=B.t.length->∃D,kr D (B.t.take k)/\∀E,(E3 B ((k:Int),D)).ω E->(E3 B (0,[])).ω E:=by
  intro k;induction k with
  |zero=>intro _;exact⟨[],⟨λs=>rfl,Ċ _⟩,λE d=>d⟩
  |succ k r=>
   intro x;obtain⟨D,c,h2⟩:=r ŉ;have a:k<B.t.length:=ŉ;have q:=Ă a;obtain⟨l,m⟩:=h.sh q;have f:eT (B.t.take k) (dE B.t[k])=none:=by
    cases n:eT (B.t.take k) (dE B.t[k])with
    |none=>rfl
    |some u=>
     obtain⟨t,v⟩:=KX n;obtain⟨j,p,e⟩:=Ń.1 t;rw[Č]at p;rw[aag]at e;exact absurd (by rw[e];exact v) (Ī.1 h.Ú j k ŉ a ŉ)
   have g:=c.snoc f;rw[<-č a]at g;have i:=g.len;rw[Č]at i;refine⟨_,g,λE d=>h2 E (Cq.Zt (Cq.wp.yes ŉ ⟨_,Λ a,_,zm l m,⟨zd l m,by show(eV D (dE B.t[k]) B.t[k].id).length<=small;simp only[small];omega⟩,?_⟩))⟩;show(Cq.loop _ _).wp _;rw[χ ŉ];exact d
 obtain⟨D,c,h2⟩:=key B.t.length (Ċ _);rw[ĥ]at c;exact⟨D,c,h2 D (Cq.Zt (Cq.wp.no ŉ rfl))⟩
theorem MD(kind:Int):kA kind<=4:=by
 unfold kA;repeat' split
 all_goals decide
def gI(B:Ze)(k:Zd)(q:Zc):Ze×Int×Int:=if fe k q=true then((ij 5 B (Χ k).1 (eJ q (Χ k).2)).1,(ij 5 B (Χ k).1 (eJ q (Χ k).2)).2,0)else(⟨[],0⟩,0,1)
theorem Bg{B:Ze}(h:ì B)(l:B.t.length<=95){k:Zd}{q:Zc}(a:Ñ k)(c:fb q):(xI B k q).ω (gI B k q):=by
 refine⟨true,Fs a.ok,_,Tk a.ok.n c,?_⟩;unfold gI;cases hr:fe k q with
 |false=>exact Cq.wp.yes rfl (by show _=_;rw[ā ĳ])
 |true=>
  rw[ą rfl];refine Cq.wp.no ĳ ?_;have f:=iN.of a c hr;have g:kA (eJ q (Χ k).2).kind<=4:=MD _;obtain⟨D,d,i⟩:=Zz7 h ŉ;obtain⟨j,_,h2⟩:=VU (n:=5) (B:=B) (D:=D) ŉ h f d ŉ;refine⟨_,SO a.ok,_,Qu c a.lW,Cq.wp.no (λe=>e rfl) (Cq.fj i ⟨B.t,⟨λe=>by rw[e];rfl,by rw[ķ];simp only[small];omega,rfl⟩,_,h2,Cq.wp.no (λe=>e rfl) rfl⟩)⟩
theorem Bz{c:Zd}{q:Zc}(d:å c){t:Zb}(f:å t.k):mz c q t=decide (dE t=gM c q):=by
 unfold mz;by_cases e:dE t=gM c q
 .obtain⟨a,h2⟩:=(Ua f d).2 e;rw[ă a,ă h2,ă e];rfl
 rw[Ĉ e];by_cases a:û t.k=û c
 .rw[ă a,Ĉ (λh2=>e ((Ua f d).1 ⟨a,h2⟩))];rfl
 rw[Ĉ a];rfl
theorem Ve{c:Zd}{q:Zc}(a:å c):∀{l:Ŀ Zb},(∀t∈l,å t.k)->eT l (gM c q)=(l.findIdx? (mz c q)).bind λi=>l[i]?
 |[],_=>rfl
 |t::l,h=>by
  have d:=Ve (q:=q) a (l:=l) λu e=>h u (by simp[e]);rw[List.findIdx?_cons,Bz a (h t ß)];unfold eT at d⊢;rw[abI];cases decide (dE t=gM c q)with
  |true=>rfl
  |false=>
   rw[d];cases l.findIdx? (mz c q)with
   |none=>rfl
   |some i=>simp
theorem ì.wI{B:Ze}(h:ì B):∀t∈B.t,kv t:=λt a=>⟨(h.can t a).ck.1.ok.mJ,(h.can t a).cq.w⟩
theorem Vz{B:Ze}(h:ì B)(k:B.t.length<=98){c:Zd}{q:Zc}(f:iN c q)(e:Int):(Qy ⟨c,q,e⟩ B).ω ⟨(il B c q).1,(il B c q).2,0⟩:=by
 refine⟨_,MC ŉ h.wI f.ck.1.ok.mJ f.cq.w,?_⟩;have a:=Ve (q:=q) f.ck.1.ok (l:=B.t) λt j=>(h.sh j).1;unfold pO il;cases hi:B.t.findIdx? (mz c q)with
 |none=>
  rw[hi]at a;have a:eT B.t (gM c q)=none:=a;rw[a];have g:=h.next;refine Cq.wp.no ĳ (Cq.wp.no ŉ (Cq.wp.no ŉ ⟨by rw[ķ];simp only[small];omega,by simp only[ķ,Ā,Ę,ĺ];simp only[small];omega,?_⟩));show _=_;rw[wrap64 ŉ,ķ];rfl
 |some i=>
  rw[hi]at a;obtain⟨d,_⟩:=aax.1 hi;have a:eT B.t (gM c q)=some B.t[i]:=by rw[a];exact Ą d
  rw[a];exact Cq.wp.yes (show(0:Int)<=(i:Int) by omega) ⟨_,Λ d,rfl⟩
theorem S1:∀{n:Nat}{B:Ze}{k c:Zd}{p q:Zc},kA q.kind<=n->ì B->iN c q->(xA k p).ω ⟨c,q,0⟩->B.t.length+kA q.kind<=99->
  (A7 n B k p).ω ⟨(ij n B c q).1,(ij n B c q).2,0⟩
 |0,_,_,_,_,q,r,_,_,_,_=>by
  rcases tB q.kind with ⟨_,h⟩|⟨x,_,h⟩<;>omega
 |n+1,B,k,c,p,q,r,g,i,hr,v=>by
  have e:ij (n+1) B c q=il ((ë q.kind).foldl (λb x=>(ij n b c x).1) B) c q:=rfl;have m:=(A3 q).2;rw[e];refine⟨_,hr,Cq.wp.no (λe=>e rfl) ⟨_,m,?_⟩⟩;show(Cq.next _ _).wp _;rcases tB q.kind with ⟨f,l⟩|⟨x,f,l⟩
  .rw[f];exact Cq.Zt (Cq.wp.no ĳ (Vz g ŉ i 0))
  have s:x∈ë q.kind:=by rw[f];exact đ.2 rfl
  have a:=iN.lz i.ck s;rw[f];have d:=EZ a.ck.1 a.cq;rw[a.fv]at d;have t:=S1 (n:=n) (B:=B) (k:=c) (c:=c) (p:=x) (q:=x) ŉ g a d ŉ;obtain⟨j,_⟩:=FZ (n:=n) (B:=B) (c:=c) (q:=x) ŉ g a;have u:=j.len;exact Cq.Zt (Cq.wp.yes (show(0:Int)<((1:Nat):Int) by decide) ⟨x,⟨ĳ,rfl⟩,_,t,Cq.wp.no (λe=>e rfl) (Cq.Zt (Cq.wp.no (show ¬i64.wrap (0+1)<((1:Nat):Int) by decide) (Vz j.ok ŉ i 0)))⟩)
theorem Zx0{B:Ze}(h:ì B)(i:B.t.length<=95){k:Zd}{q:Zc}(d:Ñ k)(e:fb q):(A7 5 B k q).ω ⟨(gI B k q).1,(gI B k q).2.1,(gI B k q).2.2⟩:=by
 have a:=EZ d e;unfold gI;cases hr:fe k q with
 |false=>
  have c:fv k q=⟨hK,⟨0,[],[]⟩,1⟩:=by unfold fv;rw[hr];rfl
  rw[c]at a;exact⟨_,a,Cq.wp.yes ĳ rfl⟩
 |true=>
  have c:fv k q=⟨(Χ k).1,eJ q (Χ k).2,0⟩:=by unfold fv;rw[if_pos hr]
  rw[c]at a;have f:=iN.of d e hr;have g:kA (eJ q (Χ k).2).kind<=4:=MD _;rw[ą rfl];exact S1 (n:=5) ŉ h f a ŉ
end Go.EL

namespace Go.EL
open Go.IntKind (i8 i16 i32 i64 u8 u16 u32 u64)
open Go Go.RowKit
structure hW (t:Zb):Prop where
 xk:Ñ t.k\/t.k=hK
 xq:fb t.q
theorem T0:¬Ñ hK:=λh=>absurd h.ok.n.1 ĳ
def ku(t:Zb):Prop:=((0<=t.η/\t.η<=13)/\0<=t.low/\-1<=t.high)/\Ñ t.k/\fe t.k t.q=true/\û (Χ t.k).1=û t.k/\gR (eJ t.q (Χ t.k).2)=gR t.q
theorem Zs2:(vl hK).ω false:=⟨false,Cq.wp.no ĳ rfl,rfl⟩
theorem ZpP:(y3 hK).ω false:=Cq.wp.yes ĳ rfl
theorem Zxs{t:Zb}(h:hW t):(KK t).wp λb=>(b=true↔ku t):=by
 by_cases c:t.η<0
 .refine Cq.wp.yes c ⟨λe=>(nomatch e),λp=>?_⟩;have:=p.1.1.1;omega
 by_cases d:13<t.η
 .refine Cq.wp.no c (Cq.wp.yes d ⟨λe=>(nomatch e),λp=>?_⟩);have:=p.1.1.2;omega
 by_cases g:t.low<0
 .refine Cq.wp.no c (Cq.wp.no d (Cq.wp.yes g ⟨λe=>(nomatch e),λp=>?_⟩));have:=p.1.2.1;omega
 by_cases i:t.high < -1
 .refine Cq.wp.no c (Cq.wp.no d (Cq.wp.no g (Cq.wp.yes i ⟨λe=>(nomatch e),λp=>?_⟩)));have:=p.1.2.2;omega
 refine Cq.wp.no c (Cq.wp.no d (Cq.wp.no g (Cq.wp.no i ?_)));have j:(0<=t.η/\t.η<=13)/\0<=t.low/\-1<=t.high:=ŉ;rcases h.xk with a|a
 .refine⟨true,Fs a.ok,_,Tk a.ok.n h.xq,?_⟩;cases hr:fe t.k t.q with
  |false=>exact Cq.wp.yes rfl ⟨λe=>(nomatch e),λp=>by have:=p.2.2.1;rw[hr]at this;cases this⟩
  |true=>
   refine Cq.wp.no ĳ ⟨_,SO a.ok,_,zn a.canon.ok,_,zn a.ok,?_⟩;by_cases f:û (Χ t.k).1=û t.k
   .refine Cq.wp.no (λe=>e f) ⟨_,Qu h.xq a.lW,Cq.wp.yes rfl ⟨_,Mk (Lj h.xq a.lW).w,_,Mk h.xq.w,?_⟩⟩;exact⟨λe=>⟨j,a,hr,f,Ĥ e⟩,λp=>ă p.2.2.2.2⟩
   exact Cq.wp.yes f ⟨λe=>(nomatch e),λp=>absurd p.2.2.2.1 f⟩
 rw[show JR t=Cq.bind (vl t.k) _ from rfl,a];exact⟨false,Zs2,⟨λe=>(nomatch e),λp=>absurd (a ▸ p.2.1) T0⟩⟩
structure wU (B:Ze) (i:Nat) (t:Zb):Prop where
 NM:1<=t.id
 WT:t.id<B.next
 inc:∀j (h:j<B.t.length),j+1=i->B.t[j].id<t.id
 prop:ku t
 Ú:∀j (h:j<B.t.length),j<i->dE B.t[j]≠dE t
 lz:∀x∈ë t.q.kind,∃j,∃(h:j<B.t.length),j<i/\dE B.t[j]=gM t.k x
def nV(B:Ze):Prop:=∀i (h:i<B.t.length),wU B i B.t[i]
def oL(B:Ze):Prop:=(B.t.length<=100/\1<=B.next/\B.next<=1000000)/\nV B
def qH(A:Prop):Bool⊕Unit->Prop
 |.inl b=>b=false/\¬A
 |.inr ()=>A
structure nZ (D:Ŀ (Ĳ×Bool)) (B:Ze) (i:Nat):Prop where
 get:∀s,(fi D s).getD false=true↔∃j,∃(h:j<B.t.length),j<i/\dE B.t[j]=s
 len:D.length<=i
theorem nZ.step{D:Ŀ (Ĳ×Bool)}{B:Ze}{i:Nat}(h:nZ D B i)(hi:i<B.t.length):nZ (eV D (dE B.t[i]) true) B (i+1) where
 get s:=by
  rw[y7];by_cases e:dE B.t[i]=s
  .rw[ą e];exact⟨λ_=>⟨i,hi,Ũ _,e⟩,λ_=>rfl⟩
  rw[ā e,h.get];constructor
  .rintro⟨j,a,h2,h3⟩;exact⟨j,a,ŉ,h3⟩
  rintro⟨j,a,h2,h3⟩;by_cases c:j=i
  .subst c;exact absurd h3 e
  exact⟨j,a,ŉ,h3⟩
 len:=by have:=AY D (dE B.t[i]) true;have:=h.len;omega
theorem ZAa{B:Ze}{i:Nat}{D:Ŀ (Ĳ×Bool)}(e:nZ D B i){t:Zb}(f:Ñ t.k):
  (Kf D t (ë t.q.kind) 0).wp (qH (∀x∈ë t.q.kind,∃j,∃(h:j<B.t.length),j<i/\dE B.t[j]=gM t.k x)):=by
 rcases tB t.q.kind with ⟨a,_⟩|⟨x,a,_⟩
 .rw[a]
  exact Cq.Zt (Cq.wp.no ĳ (λx d=>(nomatch d)))
 have d:x∈ë t.q.kind:=by rw[a];exact đ.2 rfl
 have g:=(Bp d).w
 rw[a]
 refine Cq.Zt (Cq.wp.yes (show(0:Int)<((1:Nat):Int) by decide) ⟨x,⟨ĳ,rfl⟩,_,zm f.ok g,zd f.ok g,?_⟩)
 by_cases c:(fi D (gM t.k x)).getD false=true
 .refine Cq.wp.no (by rw[c];decide) (Cq.Zt (Cq.wp.no (show ¬i64.wrap (0+1)<((1:Nat):Int) by decide) (λy l=>?_)))
  rw[đ.1 l]
  exact(e.get _).1 c
 refine Cq.wp.yes (by rw[Ů.2 c];rfl) ⟨rfl,λk=>c ((e.get _).2 (k x (đ.2 rfl)))⟩
theorem RM{B:Ze}(J:∀t∈B.t,hW t)(O:B.t.length<=100):∀(m i:Nat),m+i=B.t.length->∀(last:Int) (D:Ŀ (Ĳ×Bool)),nZ D B i->(i=0->last=0)->(∀j (h:j<B.t.length),j+1=i->B.t[j].id=last)->(∀j (h:j<B.t.length),j<i->wU B j B.t[j])->
  (Ke B (last,(i:Int),D)).wp (qH (nV B))
 |0,i,P,last,D,p,v,hp,d=>Cq.Zt (Cq.wp.no ŉ (λj n=>d j n ŉ))
 |m+1,i,P,last,D,p,v,hp,d=>by
  have hi:i<B.t.length:=ŉ;have F:=J _ (Ă hi);have C:0<=last:=by
   by_cases e:i=0
   .rw[v e];exact ŝ _
   have:=(d (i-1) ŉ ŉ).NM;rw[hp (i-1) ŉ ŉ]at this;omega
  have g:(∀j (h:j<B.t.length),j+1=i->B.t[j].id<B.t[i].id)↔i=0\/last<B.t[i].id:=by
   constructor
   .intro h;by_cases e:i=0
    .exact .inl e
    refine .inr ?_;have:=h (i-1) ŉ ŉ;rwa [hp (i-1) ŉ ŉ]at this
   intro h j n e;rw[hp j n e];rcases h with h|h
   .omega
   exact h
  refine Cq.Zt (Cq.wp.yes ŉ ⟨_,Λ hi,?_⟩);by_cases s:B.t[i].id<=last
  .refine Cq.wp.yes s ⟨rfl,λc=>?_⟩;have:=(c i hi).NM;rcases g.1 (c i hi).inc with e|e
   .rw[v e]at s;omega
   omega
  refine Cq.wp.no s ?_;by_cases G:B.next<=B.t[i].id
  .refine Cq.wp.yes G ⟨rfl,λc=>?_⟩;have:=(c i hi).WT;omega
  refine Cq.wp.no G ?_;rcases GB (Zxs F)with ⟨f,l⟩|⟨f,l⟩
  .refine⟨_,l,?_⟩;have A:=f.2.1;have k:=zm A.ok F.xq.w;have q:=zd A.ok F.xq.w;refine⟨_,k,q,?_⟩;by_cases r:(fi D (dE B.t[i])).getD false=true
   .refine Cq.wp.yes r ⟨rfl,λc=>?_⟩;obtain⟨j,L,h2,h3⟩:=(p.get _).1 r;exact(c i hi).Ú j L h2 h3
   refine Cq.wp.no r ⟨_,(A3 _).1,?_⟩;refine Cq.mono (Kf D B.t[i] (ë B.t[i].q.kind) 0) (λo H=>?_) (ZAa p A);cases o with
   |inl b=>
    obtain⟨rfl,E⟩:=H;exact⟨rfl,λc=>E (c i hi).lz⟩
   |inr u=>
    cases u;have E:∀x∈ë B.t[i].q.kind,∃j,∃(h:j<B.t.length),j<i/\dE B.t[j]=gM B.t[i].k x:=H;have I:=p.step hi;have Q:=I.len;refine⟨_,k,⟨q,by show(eV D (dE B.t[i]) true).length<=small;simp only[small];omega⟩,?_⟩;show(Cq.loop _ _).wp _;rw[χ ŉ];refine RM J O m (i+1) ŉ _ _ I (λe=>ŉ) (λj n e=>by obtain rfl:j=i:=ŉ;rfl) (λj n e=>?_);by_cases K:j=i
    .subst K;exact⟨ŉ,ŉ,g.2 (.inr ŉ),f,λa N y e=>r ((p.get _).2 ⟨a,N,y,e⟩),E⟩
    exact d j n ŉ
  exact⟨_,l,rfl,λc=>f (c i hi).prop⟩
theorem SZ{B:Ze}(i:∀t∈B.t,hW t):(AQ B).wp λb=>(b=true↔oL B):=by
 by_cases a:B.next<1
 .refine Cq.wp.yes a ⟨λe=>(nomatch e),λp=>?_⟩;have:=p.1.2.1;omega
 by_cases c:1000000<B.next
 .refine Cq.wp.no a (Cq.wp.yes c ⟨λe=>(nomatch e),λp=>?_⟩);have:=p.1.2.2;omega
 by_cases d:100<(B.t.length:Int)
 .refine Cq.wp.no a (Cq.wp.no c (Cq.wp.yes d ⟨λe=>(nomatch e),λp=>?_⟩));have:=p.1.1;omega
 refine Cq.wp.no a (Cq.wp.no c (Cq.wp.no d ?_));show(Cq.next _ _).wp _;refine Cq.mono (Ke B (0,0,[])) (λo f=>?_) (RM i ŉ B.t.length 0 rfl 0 [] ⟨λs=>⟨λe=>(nomatch e),λ⟨j,_,h,_⟩=>absurd h (ĵ _)⟩,Ċ _⟩ (λ_=>rfl) (λj _ e=>ŉ) (λj _ e=>ŉ));cases o with
 |inl b=>
  obtain⟨rfl,g⟩:=f;exact⟨λe=>(nomatch e),λp=>absurd p.2 g⟩
 |inr u=>
  cases u;exact⟨λ_=>⟨ŉ,f⟩,λ_=>rfl⟩
theorem hW.task{t:Zb}(h:hW t):kv t:=⟨by
 rcases h.xk with a|a
 .exact a.ok.mJ
 rw[a];exact jx.zero,h.xq.w⟩
theorem ZtM{t:Zb}(d:Ñ t.k):(La t).ω (ë t.q.kind):=by
 refine⟨_,(A3 t.q).2,?_⟩;show(Cq.next _ _).wp _;rcases tB t.q.kind with ⟨a,_⟩|⟨x,a,_⟩
 .rw[a];exact Cq.Zt (Cq.wp.no ĳ rfl)
 have c:x∈ë t.q.kind:=by rw[a];exact đ.2 rfl
 have f:=EZ d (Bp c);have e:(fv t.k x).q=x:=by unfold fv;rw[if_pos (AG c d.ok)];exact AF c _
 rw[a];refine Cq.Zt (Cq.wp.yes (show(0:Int)<((1:Nat):Int) by decide) ⟨x,⟨ĳ,rfl⟩,_,f,by simp only[ķ,Ę,ĺ];decide,Cq.Zt (Cq.wp.no (show ¬i64.wrap (0+1)<((1:Nat):Int) by decide) ?_)⟩);show[]++[(fv t.k x).q]=[x];rw[e];rfl
theorem Mu{l:Ŀ Zb}{k:Zd}{q:Zc}{i:Nat}:(0<=pO l k q/\pO l k q<(i:Int))↔∃j,∃(h:j<l.length),j<i/\mz k q l[j]=true:=by
 unfold pO;cases c:l.findIdx? (mz k q)with
 |none=>
  constructor
  .intro h;exact absurd h.1 ĳ
  rintro⟨j,h,_,h3⟩;have:=List.findIdx?_eq_none_iff.1 c _ (Ă h);rw[this]at h3;cases h3
 |some a=>
  obtain⟨d,h2,h3⟩:=aax.1 c;dsimp only;constructor
  .intro h;exact⟨a,d,ŉ,h2⟩
  rintro⟨j,g,m,f⟩;refine⟨ŉ,?_⟩;by_cases e:j<a
  .have:=h3 j e;simp[f]at this
  omega
theorem Zya{l:Ŀ Zb}{i:Nat}(hi:i<l.length):pO l l[i].k l[i].q=(i:Int)↔∀j (h:j<l.length),j<i->mz l[i].k l[i].q l[j]=false:=by
 have c:mz l[i].k l[i].q l[i]=true:=by unfold mz;rw[decide_eq_true rfl,decide_eq_true rfl];rfl
 have g:=Mu (l:=l) (k:=l[i].k) (q:=l[i].q) (i:=i);have h2:=(Mu (l:=l) (k:=l[i].k) (q:=l[i].q) (i:=i+1)).2 ⟨i,hi,Ũ _,c⟩;constructor
 .intro e j f a;cases d:mz l[i].k l[i].q l[j]with
  |false=>rfl
  |true=>have:=g.2 ⟨j,f,a,d⟩;omega
 intro h;by_cases e:pO l l[i].k l[i].q<(i:Int)
 .obtain⟨j,f,a,d⟩:=g.1 ⟨h2.1,e⟩;rw[h j f a]at d;cases d
 omega
theorem Zx2{B:Ze}(k:∀t∈B.t,hW t)(s:B.t.length<=100){i:Nat}(d:∀j (h:j<B.t.length),j<i->Ñ B.t[j].k){t:Zb}(g:Ñ t.k):
  (JV B (i:Int) t (ë t.q.kind) 0).wp (qH (∀x∈ë t.q.kind,∃j,∃(h:j<B.t.length),j<i/\dE B.t[j]=gM t.k x)):=by
 rcases tB t.q.kind with ⟨e,_⟩|⟨x,e,_⟩
 .rw[e]
  exact Cq.Zt (Cq.wp.no ĳ (λx k=>(nomatch k)))
 have l:x∈ë t.q.kind:=by rw[e];exact đ.2 rfl
 have q:=(Bp l).w
 have a:(∃j,∃(h:j<B.t.length),j<i/\dE B.t[j]=gM t.k x)↔(0<=pO B.t t.k x/\pO B.t t.k x<(i:Int)):=by
  rw[Mu];constructor
  .rintro⟨j,c,h2,h3⟩;exact⟨j,c,h2,by rw[Bz g.ok (d j c h2).ok];exact ă h3⟩
  rintro⟨j,c,h2,h3⟩;exact⟨j,c,h2,by rw[Bz g.ok (d j c h2).ok]at h3;exact Ĥ h3⟩
 rw[e]
 refine Cq.Zt (Cq.wp.yes (show(0:Int)<((1:Nat):Int) by decide) ⟨x,⟨ĳ,rfl⟩,_,MC ŉ (λt p=>(k t p).task) g.ok.mJ q,?_⟩)
 by_cases m:pO B.t t.k x<0
 .refine Cq.wp.yes m ⟨rfl,λf=>?_⟩
  have:=a.1 (f x (đ.2 rfl));omega
 refine Cq.wp.no m ?_
 by_cases n:(i:Int)<=pO B.t t.k x
 .refine Cq.wp.yes n ⟨rfl,λf=>?_⟩
  have:=a.1 (f x (đ.2 rfl));omega
 refine Cq.wp.no n (Cq.Zt (Cq.wp.no (show ¬i64.wrap (0+1)<((1:Nat):Int) by decide) (λy r=>?_)))
 rw[đ.1 r]
 exact a.2 ŉ
theorem Zx1{B:Ze}(y:∀t∈B.t,hW t)(G:B.t.length<=100){i:Nat}(hi:i<B.t.length)(g:∀j (h:j<B.t.length),j<i->Ñ B.t[j].k){A:Prop}
  (F:(0<=B.t[i].η/\B.t[i].η<=13)/\0<=B.t[i].low/\-1<=B.t[i].high) {Φ:(Int⊕(Bool⊕Unit))->Prop}
  (c:¬(ku B.t[i]/\(∀j (h:j<B.t.length),j<i->dE B.t[j]≠dE B.t[i])/\∀x∈ë B.t[i].q.kind,∃j,∃(h:j<B.t.length),j<i/\dE B.t[j]=gM B.t[i].k x)->Φ (.inr (.inl false)))
  (n:(ku B.t[i]/\(∀j (h:j<B.t.length),j<i->dE B.t[j]≠dE B.t[i])/\∀x∈ë B.t[i].q.kind,∃j,∃(h:j<B.t.length),j<i/\dE B.t[j]=gM B.t[i].k x)->Φ (.inl ((i+1:Nat):Int))) :
  (AJ B (i:Int) B.t[i]).wp Φ:=by
 have k:=y _ (Ă hi)
 have E:∀t∈B.t,kv t:=λt k=>(y t k).task
 rcases k.xk with a|a
 .have l:=EZ a k.xq
  cases hr:fe B.t[i].k B.t[i].q with
  |false=>
   have v:fv B.t[i].k B.t[i].q=⟨hK,⟨0,[],[]⟩,1⟩:=by unfold fv;rw[hr];rfl
   rw[v]at l
   exact⟨_,l,Cq.wp.yes ĳ (c λp=>by have:=p.1.2.2.1;rw[hr]at this;cases this)⟩
  |true=>
   have v:fv B.t[i].k B.t[i].q=⟨(Χ B.t[i].k).1,eJ B.t[i].q (Χ B.t[i].k).2,0⟩:=by unfold fv;rw[if_pos hr]
   rw[v]at l
   refine⟨_,l,Cq.wp.no (λe=>e rfl) ⟨_,Fw a.canon.ok.mJ a.ok.mJ,?_⟩⟩
   by_cases q:û (Χ B.t[i].k).1=û B.t[i].k
   .rw[ă q]
    refine⟨_,Le (Lj k.xq a.lW).w k.xq.w,?_⟩
    by_cases r:gR (eJ B.t[i].q (Χ B.t[i].k).2)=gR B.t[i].q
    .rw[ă r]
     refine⟨_,MC ŉ E a.ok.mJ k.xq.w,?_⟩
     have D:ku B.t[i]:=⟨F,a,hr,q,r⟩
     have d:pO B.t B.t[i].k B.t[i].q=(i:Int)↔∀j (h:j<B.t.length),j<i->dE B.t[j]≠dE B.t[i]:=by
      rw[Zya hi];constructor
      .intro h j m f e;have:=h j m f;rw[Bz a.ok (g j m f).ok,ă e]at this;cases this
      intro h j m f;rw[Bz a.ok (g j m f).ok];exact Ĉ (h j m f)
     by_cases s:pO B.t B.t[i].k B.t[i].q=(i:Int)
     .refine Cq.wp.no (λe=>e s) ⟨_,ZtM a,?_⟩
      refine Cq.mono (JV B (i:Int) B.t[i] (ë B.t[i].q.kind) 0) (λo C=>?_) (Zx2 y G g a)
      cases o with
      |inl b=>
       obtain⟨rfl,H⟩:=C
       exact c λp=>H p.2.2
      |inr u=>
       cases u
       show Φ (.inl (i64.wrap ((i:Int)+1)))
       rw[χ ŉ]
       exact n ⟨D,d.1 s,C⟩
     exact Cq.wp.yes s (c λp=>s (d.2 p.2.1))
    rw[Ĉ r]
    exact c λp=>r p.1.2.2.2.2
   rw[Ĉ q]
   exact c λp=>q p.1.2.2.2.1
 have l:(xA B.t[i].k B.t[i].q).ω ⟨⟨0,[],[]⟩,⟨0,[],[]⟩,1⟩:=by rw[a];exact⟨false,ZpP,rfl⟩
 exact⟨_,l,Cq.wp.yes ĳ (c λp=>absurd (a ▸ p.1.2.1) T0)⟩
theorem RK{B:Ze}(C:∀t∈B.t,hW t)(y:B.t.length<=100):∀(m i:Nat),m+i=B.t.length->(∀j (h:j<B.t.length),j<i->wU B j B.t[j])->(ER B (i:Int)).wp (qH (nV B))
 |0,i,E,c=>Cq.Zt (Cq.wp.no ŉ (λj d=>c j d ŉ))
 |m+1,i,E,c=>by
  have hi:i<B.t.length:=ŉ;refine Cq.Zt (Cq.wp.yes ŉ ⟨_,Λ hi,?_⟩);by_cases r:B.t[i].id<1
  .exact Cq.wp.yes r ⟨rfl,λa=>by have:=(a i hi).NM;omega⟩
  refine Cq.wp.no r ?_;by_cases u:B.next<=B.t[i].id
  .exact Cq.wp.yes u ⟨rfl,λa=>by have:=(a i hi).WT;omega⟩
  refine Cq.wp.no u ?_;have rest:(∀j (h:j<B.t.length),j+1=i->B.t[j].id<B.t[i].id)->(if B.t[i].η<0 then Cq.ret (.inr (.inl false))else(if 13<B.t[i].η then Cq.ret (.inr (.inl false))else(if B.t[i].low<0 then Cq.ret (.inr (.inl false))else(if B.t[i].high<(-1)then Cq.ret (.inr (.inl false))else AJ B (i:Int) B.t[i]))):Cq (Int⊕(Bool⊕Unit))).wp (Out (λs=>(ER B s).wp (qH (nV B))) (qH (nV B))):=λg=>by
   by_cases f:B.t[i].η<0
   .exact Cq.wp.yes f ⟨rfl,λa=>by have:=(a i hi).prop.1.1.1;omega⟩
   by_cases k:13<B.t[i].η
   .exact Cq.wp.no f (Cq.wp.yes k ⟨rfl,λa=>by have:=(a i hi).prop.1.1.2;omega⟩)
   by_cases l:B.t[i].low<0
   .exact Cq.wp.no f (Cq.wp.no k (Cq.wp.yes l ⟨rfl,λa=>by have:=(a i hi).prop.1.2.1;omega⟩))
   by_cases q:B.t[i].high < -1
   .exact Cq.wp.no f (Cq.wp.no k (Cq.wp.no l (Cq.wp.yes q ⟨rfl,λa=>by have:=(a i hi).prop.1.2.2;omega⟩)))
   refine Cq.wp.no f (Cq.wp.no k (Cq.wp.no l (Cq.wp.no q ?_)));refine Zx1 (A:=True) C y hi (λj d n=>(c j d n).prop.2.1) ŉ (λF=>⟨rfl,λa=>F ⟨(a i hi).prop,(a i hi).Ú,(a i hi).lz⟩⟩) (λp=>?_);refine RK C y m (i+1) ŉ (λj d e=>?_);by_cases D:j=i
   .subst D;exact⟨ŉ,ŉ,g,p.1,p.2.1,p.2.2⟩
   exact c j d ŉ
  by_cases v:(0:Int)<(i:Int)
  .have G:i64.wrap ((i:Int)-1)=((i-1:Nat):Int):=by rw[wrap64 ŉ];omega
   refine Cq.wp.yes v ?_;rw[G];refine⟨_,Λ (show i-1<B.t.length by omega),?_⟩;by_cases x:B.t[i].id<=B.t[i-1].id
   .exact Cq.wp.yes x ⟨rfl,λa=>by have:=(a i hi).inc (i-1) ŉ ŉ;omega⟩
   exact Cq.wp.no x (rest λj d e=>by obtain rfl:j=i-1:=ŉ;omega)
  exact Cq.wp.no v (rest λj d e=>ŉ)
theorem Zwp{B:Ze}(h:∀t∈B.t,hW t):(Ld B).wp λb=>(b=true↔oL B):=by
 by_cases a:100<(B.t.length:Int)
 .exact Cq.wp.yes a ⟨λe=>(nomatch e),λp=>by have:=p.1.1;omega⟩
 by_cases c:B.next<1
 .exact Cq.wp.no a (Cq.wp.yes c ⟨λe=>(nomatch e),λp=>by have:=p.1.2.1;omega⟩)
 by_cases d:1000000<B.next
 .exact Cq.wp.no a (Cq.wp.no c (Cq.wp.yes d ⟨λe=>(nomatch e),λp=>by have:=p.1.2.2;omega⟩))
 refine Cq.wp.no a (Cq.wp.no c (Cq.wp.no d ?_));show(Cq.next _ _).wp _;refine Cq.mono (ER B 0) (λo f=>?_) (RK h ŉ B.t.length 0 rfl (λj _ e=>ŉ));cases o with
 |inl b=>
  obtain⟨rfl,g⟩:=f;exact⟨λe=>(nomatch e),λp=>absurd p.2 g⟩
 |inr u=>
  cases u;exact⟨λ_=>⟨ŉ,f⟩,λ_=>rfl⟩
theorem ì.wH{B:Ze}(h:ì B):∀t∈B.t,hW t:=λt a=>⟨.inl (h.can t a).ck.1,(h.can t a).cq⟩
theorem ì.valid{B:Ze}(h:ì B)(l:B.t.length<=100):oL B:=by have m:=h.next;refine⟨ŉ,λi hi=>?_⟩;have f:=Ă hi;have a:=h.can _ f;have g:=h.ids i hi;refine⟨ŉ,ŉ,λj c e=>by have:=h.ids j c;omega,⟨h.num _ f,a.ck.1,a.right,by rw[a.ck.2],by rw[a.ck.2,a.self]⟩,λj c d=>Ī.1 h.Ú j i c hi d,λx k=>h.lz i hi x k⟩
end Go.EL

namespace Go.EL
open Go.IntKind (i8 i16 i32 i64 u8 u16 u32 u64)
open Go Go.RowKit
def qE:Zb:=⟨0,⟨0,[],[]⟩,⟨0,[],[]⟩,0,0,0,false⟩
def fM(l:Ŀ Zb)(id:Int):Zb×Bool:=match l.find? λt=>decide (t.id=id)with
 |some t=>(t,true)
 |none=>(qE,false)
theorem Fz{B:Ze}(j:B.t.length<=1000)(id:Int):(A1 B id).ω (fM B.t id)/\(LG B id).ω (fM B.t id):=by
 have key:∀(m i:Nat),m+i=B.t.length->∀z,((Kt B id ((i:Int),z)).wp λo=>o=(match(B.t.drop i).find? (λt=>decide (t.id=id))with|some t=>.inl (t,true)|none=>.inr z))/\((Ko B id ((i:Int),z)).wp λo=>o=(match(B.t.drop i).find? (λt=>decide (t.id=id))with|some t=>.inl (t,true)|none=>.inr z)):=by
  intro m;induction m with
  |zero=>
   intro i hi z;rw[Ĺ ŉ];exact⟨Cq.Zt (Cq.wp.no ŉ rfl),Cq.Zt (Cq.wp.no ŉ rfl)⟩
  |succ m h=>
   intro i hi z;have a:i<B.t.length:=ŉ;obtain⟨d,f⟩:=h (i+1) ŉ z;rw[į a,abI];by_cases e:B.t[i].id=id
   .rw[ă e];exact⟨Cq.Zt (Cq.wp.yes ŉ ⟨_,Λ a,Cq.wp.yes e rfl⟩),Cq.Zt (Cq.wp.yes ŉ ⟨_,Λ a,Cq.wp.yes e ⟨_,Λ a,rfl⟩⟩)⟩
   rw[Ĉ e];refine⟨Cq.Zt (Cq.wp.yes ŉ ⟨_,Λ a,Cq.wp.no e ?_⟩),Cq.Zt (Cq.wp.yes ŉ ⟨_,Λ a,Cq.wp.no e ?_⟩)⟩
   .show (Cq.loop _ _).wp _;rw[χ ŉ];exact d
   show(Cq.loop _ _).wp _;rw[χ ŉ];exact f
 obtain⟨g,k2⟩:=key B.t.length 0 ŉ qE;rw[abd]at g k2;unfold fM;constructor
 .show (Cq.next _ _).wp _;refine Cq.mono (Kt B id (0,qE)) (λo c=>?_) g;rw[c];cases B.t.find? λt=>decide (t.id=id)<;>rfl
 show(Cq.next _ _).wp _;refine Cq.mono (Ko B id (0,qE)) (λo c=>?_) k2;rw[c];cases B.t.find? λt=>decide (t.id=id)<;>rfl
structure nY (s t:Zb):Prop where
 id:s.id=t.id
 η:s.η=t.η
 low:s.low=t.low
 high:s.high=t.high
 done:s.done=t.done
 k:û s.k=û t.k
 q:gR s.q=gR t.q
theorem nY.refl(t:Zb):nY t t:=⟨rfl,rfl,rfl,rfl,rfl,rfl,rfl⟩
theorem Zwr{s t:Zb}(a:kv s)(c:kv t)(h:nY s t):(JU s t).ω true:=by refine Cq.wp.yes h.id (Cq.wp.yes h.η (Cq.wp.yes h.low (Cq.wp.yes h.high (Cq.wp.yes h.done ⟨_,Fw a.k c.k,?_⟩))));rw[ă h.k];exact⟨_,Le a.q c.q,ă h.q⟩
theorem ZpQ{B C:Ze}(f:∀t∈B.t,kv t)(g:∀t∈C.t,kv t)(l:B.next=C.next)(n:B.t.length=C.t.length)(j:B.t.length<=1000)(h:∀i (m:i<B.t.length) (h2:i<C.t.length),nY B.t[i] C.t[i]):(FX B C).ω true:=by
 refine Cq.wp.no (λe=>e l) (Cq.wp.no (λe=>e ŉ) ?_);show(Cq.next _ _).wp _;refine Cq.Zn B.t.length (λk s=>s=(k:Int)) (λk s d c=>?_) (λs c=>?_) rfl
 .subst c;have a:k<C.t.length:=ŉ;refine Cq.wp.yes ŉ ⟨_,Λ d,_,Λ a,_,Zwr (f _ (Ă _)) (g _ (Ă _)) (h k d a),Cq.wp.no ĳ ?_⟩;show _=_;rw[χ ŉ]
 subst c;exact Cq.wp.no ŉ rfl
theorem Zrz{B:Ze}(c:∀t∈B.t,kv t)(a:B.t.length<=1000):(FX B B).ω true:=ZpQ c c rfl rfl a λi _ _=>nY.refl _
def iJ(B:Ze)(t:Zb):Bool:=!t.done&&decide (t.η<=12)&&(ë t.q.kind).all λx=>match eT B.t (gM t.k x)with
 |some u=>u.done
 |none=>false
def iZ(B:Ze)(n:Nat):Ŀ Zb:=B.t.filter λt=>decide (t.η=(n:Int))&&iJ B t
def iz(B:Ze):Ŀ Zb:=(List.range 13).flatMap (iZ B)
def yq(B:Ze):Ŀ Int:=(iz B).map (·.id)
theorem ZtV{α:Type}(p:α->Bool){l:Ŀ α}{i:Nat}(hi:i<l.length):(l.take (i+1)).filter p=(l.take i).filter p++if p l[i]=true then[l[i]]else[]:=by rw[č hi,abb];congr 1;rw[ő];split<;>rfl
theorem ZvZ(B:Ze)(n:Nat):(iZ B n).length<=B.t.length:=dO _ _
theorem P6(B:Ze):∀n:Nat,((List.range n).flatMap (iZ B)).length<=n*B.t.length
 |0=>Ĝ _
 |n+1=>by rw[aan,Ž,Ā,List.flatMap_singleton,ō];have:=P6 B n;have:=ZvZ B n;omega
def yk(s t:Zb):Prop:=s.η<t.η\/(s.η=t.η/\s.id<t.id)
theorem Vi{s t:Zb}:lu s t<0↔yk s t:=by
 unfold lu yk;by_cases a:s.η<t.η
 .rw[ą a];omega
 rw[ā a];by_cases b:t.η<s.η
 .rw[ą b];omega
 rw[ā b];by_cases c:s.id<t.id
 .rw[ą c];omega
 rw[ā c];split<;>omega
theorem ì.inc{B:Ze}(h:ì B):B.t.Pairwise λs t=>s.id<t.id:=by rw[Ī];intro i j hi c a;have:=h.ids i hi;have:=h.ids j c;omega
theorem T5{B:Ze}(h:ì B):∀n:Nat,((List.range n).flatMap (iZ B)).Pairwise yk/\∀t∈(List.range n).flatMap (iZ B),t.η<(n:Int)
 |0=>⟨List.Pairwise.nil,λt a=>by cases a⟩
 |n+1=>by
  obtain⟨f,h2⟩:=T5 h n;have c:∀t∈iZ B n,t.η=(n:Int):=λt a=>by have:=(Ő.1 a).2;rw[ĉ]at this;exact Ĥ this.1
  rw[aan,Ž,List.flatMap_singleton,ej];refine⟨⟨f,?_,λs d t a=>.inl (by have:=h2 s d;have:=c t a;omega)⟩,λt a=>?_⟩
  .have hp:(iZ B n).Pairwise λs t=>s.id<t.id:=h.inc.sublist List.filter_sublist;refine hp.imp_of_mem λ{s t} d a e=>.inr ⟨by have:=c s d;have:=c t a;omega,e⟩
  rcases Ħ.1 a with a|a
  .have:=h2 t a;omega
  have:=c t a;omega
theorem ZvM{t:Zb}(h:yk t t):False:=by unfold yk at h;omega
theorem Zt2{B:Ze}{t:Zb}(h:iJ B t=true):t.done=false/\t.η<=12:=by unfold iJ at h;rw[ĉ,ĉ]at h;exact⟨by simpa using h.1.1,Ĥ h.1.2⟩
theorem Tj{B:Ze}(h:ì B){t:Zb}:t∈iz B↔t∈B.t/\iJ B t=true:=by
 unfold iz iZ;simp only[List.mem_flatMap,Ľ,Ő,ĉ,Ě];constructor
 .rintro⟨n,_,a,_,h2⟩;exact⟨a,h2⟩
 rintro⟨a,h2⟩;have c:=(h.num t a).1;have:=(Zt2 h2).2;exact⟨t.η.toNat,ŉ,a,ŉ,h2⟩
theorem Zv0{B:Ze}(h:ì B){ys:Ŀ Zb}(hp:ys.Perm (B.t.filter (iJ B)))(u:ys.Pairwise λx y=>¬lu y x<0):ys=iz B:=by
 have hr:=(T5 h 13).1;have f:(iz B).Nodup:=hr.imp λ{s t} e c=>by subst c;exact ZvM e
 have d:(B.t.filter (iJ B)).Nodup:=(h.inc.sublist List.filter_sublist).imp λ{s t} e c=>by subst c;exact Int.lt_irrefl _ e
 refine abp (le:=λx y=>¬lu y x<0) (λa b n p l h2=>?_) u (hr.imp λ{s t} e c=>?_) (hp.trans ((List.perm_ext_iff_of_nodup d f).2 λt=>?_))
 .rw[Vi]at l h2;have v:=(Ő.1 (hp.mem_iff.1 n)).1;have mb:=((Tj h).1 p).1;obtain⟨i,hi,g⟩:=Ń.1 v;obtain⟨j,r,k⟩:=Ń.1 mb;have h3:=h.ids i hi;have m:=h.ids j r;have q:a.id=b.id:=by unfold yk at l h2;omega
  rw[g]at h3;rw[k]at m;have:i=j:=ŉ;subst this;rw[<-g,<-k]
 .rw[Vi]at c;unfold yk at e c;omega
 rw[Tj h,Ő]
end Go.EL

namespace Go.EL
open Go.IntKind (i8 i16 i32 i64 u8 u16 u32 u64)
open Go Go.RowKit
structure pD (D:Ŀ (Ĳ×Bool)) (B:Ze) (i:Nat):Prop where
 get:∀s,(fi D s).getD false=true↔∃j,∃(h:j<B.t.length),j<i/\dE B.t[j]=s/\B.t[j].done=true
 len:D.length<=i
theorem Zyi{B:Ze}(h:ì B)(u:B.t.length<=1000):∃D,pD D B B.t.length/\(Em B (0,[])).ω D:=by
 have key:∀k,k<=B.t.length->∃D,pD D B k/\∀E,(Em B ((k:Int),D)).ω E->(Em B (0,[])).ω E:=by
  intro k;induction k with
  |zero=>intro _;exact⟨[],⟨λs=>⟨λe=>(nomatch e),λ⟨j,_,h,_⟩=>absurd h (ĵ _)⟩,Ċ _⟩,λE i=>i⟩
  |succ k r=>
   intro t;obtain⟨D,g,h2⟩:=r ŉ;have f:k<B.t.length:=ŉ;obtain⟨n,p⟩:=h.sh (Ă f);have q:=g.len;cases l:B.t[k].done with
   |true=>
    have v:=AY D (dE B.t[k]) true;refine⟨eV D (dE B.t[k]) true,⟨λs=>?_,ŉ⟩,λE i=>h2 E (Cq.Zt (Cq.wp.yes ŉ ⟨_,Λ f,Cq.wp.yes l ⟨_,zm n p,⟨zd n p,by show(eV D (dE B.t[k]) true).length<=small;simp only[small];omega⟩,?_⟩⟩))⟩
    .rw[y7];by_cases e:dE B.t[k]=s
     .rw[ą e];exact⟨λ_=>⟨k,f,Ũ _,e,l⟩,λ_=>rfl⟩
     rw[ā e,g.get];constructor
     .rintro⟨j,a,b,c⟩;exact⟨j,a,ŉ,c⟩
     rintro⟨j,a,b,c,d⟩;by_cases m:j=k
     .subst m;exact absurd c e
     exact⟨j,a,ŉ,c,d⟩
    show(Cq.loop _ _).wp _;rw[χ ŉ];exact i
   |false=>
    refine⟨D,⟨λs=>?_,ŉ⟩,λE i=>h2 E (Cq.Zt (Cq.wp.yes ŉ ⟨_,Λ f,Cq.wp.no (by rw[l];decide) ?_⟩))⟩
    .rw[g.get];constructor
     .rintro⟨j,a,b,c⟩;exact⟨j,a,ŉ,c⟩
     rintro⟨j,a,b,c,d⟩;by_cases m:j=k
     .subst m;rw[l]at d;cases d
     exact⟨j,a,ŉ,c,d⟩
    show(Cq.loop _ _).wp _;rw[χ ŉ];exact i
 obtain⟨D,g,h2⟩:=key B.t.length (Ċ _);exact⟨D,g,h2 D (Cq.Zt (Cq.wp.no ŉ rfl))⟩
theorem ZwC{B:Ze}(h:ì B){D:Ŀ (Ĳ×Bool)}(l:pD D B B.t.length)(s:Ĳ):(fi D s).getD false=(match eT B.t s with|some u=>u.done|none=>false):=by
 rw[abJ,l.get];cases g:eT B.t s with
 |none=>
  constructor
  .rintro⟨j,a,_,c,_⟩;exact absurd c (RW g _ (Ă a))
  intro e;cases e
 |some u=>
  obtain⟨n,f⟩:=KX g;obtain⟨i,hi,e⟩:=Ń.1 n;dsimp only;constructor
  .rintro⟨j,a,_,c,d⟩;have:i=j:=by
    by_cases k:i<j
    .exact absurd (by rw[e,f,c]) (Ī.1 h.Ú i j hi a k)
    by_cases h2:j<i
    .exact absurd (by rw[e,f,c]) (Ī.1 h.Ú j i a hi h2)
    omega
   subst this;rw[<-e];exact d
  intro m;exact⟨i,hi,hi,by rw[e];exact f,by rw[e];exact m⟩
theorem ZrK{B:Ze}(h:ì B){D:Ŀ (Ĳ×Bool)}(f:pD D B B.t.length){t:Zb}(d:Ñ t.k):
  (ZG (ë t.q.kind) D t).ω (!(ë t.q.kind).all λx=>match eT B.t (gM t.k x)with|some u=>u.done|none=>false):=by
 rcases tB t.q.kind with ⟨a,_⟩|⟨x,a,_⟩
 .rw[a]
  exact⟨-1,Cq.Zt (Cq.wp.no ĳ rfl),rfl⟩
 have i:x∈ë t.q.kind:=by rw[a];exact đ.2 rfl
 have e:=(Bp i).w
 have g:=ZwC h f (gM t.k x)
 have c:(Kc x D t).ω (!((fi D (gM t.k x)).getD false)):=⟨_,zm d.ok e,zd d.ok e,rfl⟩
 rw[g]at c
 rw[a]
 simp only[abo,List.all_nil,abT]
 generalize (match eT B.t (gM t.k x)with|some u=>u.done|none=>false:Bool)=b at c
 cases b with
 |true=>exact⟨-1,Cq.Zt (Cq.wp.yes (show(0:Int)<((1:Nat):Int) by decide) ⟨x,⟨ĳ,rfl⟩,_,c,Cq.wp.no ĳ (Cq.Zt (Cq.wp.no (show ¬i64.wrap (0+1)<((1:Nat):Int) by decide) rfl))⟩),rfl⟩
 |false=>exact⟨0,Cq.Zt (Cq.wp.yes (show(0:Int)<((1:Nat):Int) by decide) ⟨x,⟨ĳ,rfl⟩,_,c,Cq.wp.yes rfl rfl⟩),rfl⟩
theorem Zvt{B:Ze}(h:ì B)(q:B.t.length<=100):(KN B).ω (yq B):=by
 obtain⟨D,p,r⟩:=Zyi h ŉ;refine Cq.fj r ?_;show(Cq.next _ _).wp _;refine Cq.Zn B.t.length (λi s=>s=((B.t.take i).filter (iJ B),(i:Int))) (λi s hi d=>?_) (λs d=>?_) rfl
 .subst d;have a:=ZtV (iJ B) hi;have f:((B.t.take i).filter (iJ B)).length<=100:=ŋ (dO _ _) (by rw[Č];omega);have l:=(h.can _ (Ă hi)).ck.1;have c:iJ B B.t[i]=(!B.t[i].done&&decide (B.t[i].η<=12)&&(ë B.t[i].q.kind).all λx=>match eT B.t (gM B.t[i].k x)with|some u=>u.done|none=>false):=rfl;refine Cq.wp.yes ŉ ⟨_,Λ hi,?_⟩;cases j:B.t[i].done with
  |true=>
   have A:iJ B B.t[i]=false:=by rw[c,j];rfl
   rw[A,ā ĳ,ę]at a;refine Cq.wp.yes j ?_;show _=_;rw[χ ŉ,a]
  |false=>
   refine Cq.wp.no (by rw[j];decide) ?_;by_cases g:B.t[i].η<=12
   .rw[c,j,ă g]at a;refine Cq.wp.yes g ⟨_,(A3 _).1,_,ZrK h p l,?_⟩;generalize ((ë B.t[i].q.kind).all λx=>match eT B.t (gM B.t[i].k x)with|some u=>u.done|none=>false)=b at a;cases b with
    |true=>
     rw[ą ĳ]at a;refine Cq.wp.yes rfl ⟨by simp only[Ā,Ę,ĺ];simp only[small];omega,?_⟩;show _=_;rw[χ ŉ,a]
    |false=>
     rw[ā ĳ,ę]at a;refine Cq.wp.no ĳ ?_;show _=_;rw[χ ŉ,a]
   rw[c,Ĉ g,Bool.and_false,Ŷ,ā ĳ,ę]at a;refine Cq.wp.no g ?_;show _=_;rw[χ ŉ,a]
 subst d;refine Cq.wp.no ŉ ?_;rw[ĥ];have f:(B.t.filter (iJ B)).length<=100:=ŋ (dO _ _) q;obtain⟨v,y,C,E⟩:=TJ f;have e:(ZS (B.t.filter (iJ B))).ω (iz B):=⟨_,y,iz B,⟨⟨rfl,rfl,⟨C,E⟩,ŉ⟩,λys n=>Zv0 h n.1 n.2⟩,rfl⟩;refine⟨_,e,?_⟩;have t:=P6 B 13;show(Cq.next _ _).wp _;refine Cq.Zn (iz B).length (λk s=>s=(((iz B).take k).map (·.id),(k:Int))) (λk s l d=>?_) (λs d=>?_) rfl
 .subst d;have m:(iz B).length<=1300:=by
   show((List.range 13).flatMap (iZ B)).length<=1300;omega
  refine Cq.wp.yes ŉ ⟨_,Λ l,by simp only[Ā,ć,Č,Ę,ĺ];simp only[small];omega,?_⟩;show _=_;rw[χ ŉ,č l,Ĭ];rfl
 subst d;refine Cq.wp.no ŉ ?_;rw[ĥ];rfl
end Go.EL

namespace Go.EL
open Go.IntKind (i8 i16 i32 i64 u8 u16 u32 u64)
open Go Go.RowKit
theorem By(N:Nat)(p:N<=1000)(f:Nat->Bool){step:Int->Cq (Int⊕(Bool⊕Unit))}(h:∀k,k<N->(step (k:Int)).wp λo=>o=if f k=true then .inl (i64.wrap ((k:Int)+1))else .inr (.inl false))
  (a:(step (N:Int)).wp λo=>o=.inr (.inr ())):(Cq.loop step 0).wp λo=>o=if(List.range N).all f=true then .inr ()else .inl false:=by
 refine Cq.Zn N (λk s=>s=(k:Int)/\∀i,i<k->f i=true) (λk s l j=>?_) (λs j=>?_) ⟨rfl,λi hi=>absurd hi (ĵ _)⟩
 .obtain⟨rfl,d⟩:=j
  refine(step _).mono (λo g=>?_) (h k l)
  subst g
  by_cases c:f k=true
  .rw[ą c]
   refine⟨χ ŉ,λi m=>?_⟩
   by_cases e:i=k
   .subst e;exact c
   exact d i ŉ
  rw[ā c]
  show _=_
  rw[ā λe=>c (Ć.1 e _ (Ľ.2 l))]
 obtain⟨rfl,d⟩:=j
 refine(step _).mono (λo g=>?_) a
 subst g
 show _=_
 rw[ą (Ć.2 λx n=>d x (Ľ.1 n))]
theorem zb{α:Type}(l:Ŀ α)(g:l.length<=1000)(f:α->Bool){step:Int->Cq (Int⊕(Bool⊕Unit))}(h:∀k (d:k<l.length),(step (k:Int)).wp λo=>o=if f l[k]=true then .inl (i64.wrap ((k:Int)+1))else .inr (.inl false))
  (a:(step (l.length:Int)).wp λo=>o=.inr (.inr ())):(Cq.loop step 0).wp λo=>o=if l.all f=true then .inr ()else .inl false:=by
 have key:=By l.length g (λk=>(l[k]?.map f).getD true) (step:=step) (λk d=>by have:=h k d;rw[Ą d];exact this) a
 have e:((List.range l.length).all λk=>(l[k]?.map f).getD true)=l.all f:=by
  rw[abJ,Ć,Ć];constructor
  .intro c x j;obtain⟨i,hi,rfl⟩:=ż j;have:=c i (Ľ.2 hi);rw[Ą hi]at this;exact this
  intro c i hi;have hi:=Ľ.1 hi;rw[Ą hi];exact c _ (Ă hi)
 rw[e]at key
 exact key
def fP(p:Ó)(n d:Int):Bool:=decide ((ð p).toNat<2 ^ n.toNat)&&decide (gi p<=d)
theorem Zy5{p:Ó}{n:Nat}(e:n<=4):(Int.fdiv (i64.wrap (ð p)) (2 ^ (min (n:Int).toNat i64.bits))=0)↔(ð p).toNat<2 ^ n:=by
 have f:=uf p;rw[wrap64 ŉ];obtain⟨u,c⟩:∃u:Nat,ð p=(u:Int):=⟨(ð p).toNat,ŉ⟩;have d:Int.fdiv (ð p) (2 ^ (min (n:Int).toNat i64.bits))=((u / 2 ^ n:Nat):Int):=by rw[c,Ĕ,Ż (show n<=i64.bits from ŋ e ĳ),aah _ (Int.le_of_lt (Int.pow_pos ĳ))];push_cast;rfl
 rw[d,c,Ĕ];have hp:=aad n;constructor
 .intro a;have a:u / 2 ^ n=0:=ŉ;rcases eF.1 a with h|h
  .omega
  exact h
 intro a;rw[aaL a];rfl
theorem KG{k:Zd}(f:1<=k.n/\k.n<=4){p:Ó}(h:ψ p)(d:Int):(ç ⟨k⟩ p d).ω (fP p k.n d):=by
 refine⟨true,Eb h,_,FY h.len,by show 0<=k.n;omega,?_⟩;obtain⟨n,c⟩:∃n:Nat,k.n=(n:Int):=⟨k.n.toNat,ŉ⟩;have hi:=Zy5 (p:=p) (n:=n) ŉ;unfold fP;show Cq.wp (if(Int.fdiv (i64.wrap (ð p)) (2 ^ (min (k.n).toNat i64.bits)))=0 then _ else _) _;rw[c,Ĕ];by_cases a:(ð p).toNat<2 ^ n
 .rw[ă a,Ť];exact Cq.wp.yes (hi.2 a) ⟨_,yK h,rfl⟩
 rw[Ĉ a,Ŷ];exact Cq.wp.no (λe=>a (hi.1 e)) rfl
theorem E4{n:Int}(f:1<=n/\n<=4){p:Ó}(h:ψ p)(d:Int):(xl p n d).ω (fP p n d):=by
 obtain⟨n,rfl⟩:∃m:Nat,n=(m:Int):=⟨n.toNat,ŉ⟩;have nR:1<=n/\n<=4:=ŉ;have g:=uf p;have c:u64.wrap (n:Int)=(n:Int):=qL ⟨ŉ,ŉ⟩;have a:i64.wrap (1*2 ^ (min (n:Int).toNat i64.bits))=((2 ^ n:Nat):Int):=by
  match n,nR with
  |1,_=>rfl
  |2,_=>rfl
  |3,_=>rfl
  |4,_=>rfl
 refine⟨true,As h,_,AH h.len,by rw[c];omega,?_⟩;rw[c,a,wrap64 ŉ];unfold fP;rw[Ĕ];by_cases e:(ð p).toNat<2 ^ n
 .rw[ă e,Ť];exact Cq.wp.yes ŉ ⟨_,wZ h,rfl⟩
 rw[Ĉ e,Ŷ];exact Cq.wp.no ŉ rfl
theorem xF{c:Cq (Bool⊕Unit)}{b:Bool}{k:Bool⊕Unit->Cq Bool}(h:c.wp λo=>o=if b=true then .inr ()else .inl false)(d:k (.inl false)=Cq.ret false)(h2:k (.inr ())=Cq.ret true):(c.next k).wp λa=>a=b:=by
 refine c.mono (λo e=>?_) h;subst e;cases b with
 |false=>rw[ā ĳ,d];rfl
 |true=>rw[ą rfl,h2];rfl
theorem Ty{k:Zd}(a:1<=k.n/\k.n<=4){l:Ŀ Ó}(c:l.length<=3)(h:∀p∈l,ψ p):(Å ⟨k⟩ l).ω (l.all λp=>fP p k.n 64):=by
 refine Cq.wp.yes ŉ ⟨_,⟨_,xF (zb l ŉ (λp=>fP p k.n 64) (λi hi=>?_) ?_) rfl rfl,rfl⟩,rfl⟩
 .refine Cq.wp.yes ŉ ⟨_,Λ hi,_,⟨_,KG a (h _ (Ă hi)) 64,rfl⟩,?_⟩;cases fP l[i] k.n 64 with
  |false=>exact Cq.wp.yes rfl rfl
  |true=>exact Cq.wp.no ĳ rfl
 exact Cq.wp.no ŉ rfl
theorem SY{n:Int}(a:1<=n/\n<=4){l:Ŀ Ó}(c:l.length<=3)(h:∀p∈l,ψ p):(FU l n).ω (l.all λp=>fP p n 64):=by
 refine xF (zb l ŉ (λp=>fP p n 64) (λi hi=>?_) ?_) rfl rfl
 .refine Cq.wp.yes ŉ ⟨_,Λ hi,_,E4 a (h _ (Ă hi)) 64,?_⟩;cases fP l[i] n 64 with
  |false=>exact Cq.wp.yes rfl rfl
  |true=>exact Cq.wp.no ĳ rfl
 exact Cq.wp.no ŉ rfl
def lC(s:Ŀ Int):Prop:=s.length<=3/\∀x∈s,-1<=x/\x<=1
theorem ZxA{s:Ŀ Int}(h:lC s):(Ji s).ω true:=by
 have key:=zb s (by have:=h.1;omega) (λ_=>true) (step:=λa=>if a<(s.length:Int)then(Cq.Γ s a λf=>Cq.bind (JY f) λc=>if(!c)=true then(Cq.ret (.inr (.inl false)))else(Cq.ret (.inl (i64.wrap (a+1)))))else(Cq.ret (.inr (.inr ())))) (λi hi=>?_) ?_
 .have e:(s.all λ_=>true)=true:=Ć.2 λ_ _=>rfl;rw[e]at key;exact Cq.fj key rfl
 .have d:=h.2 _ (Ă hi);refine Cq.wp.yes ŉ ⟨_,Λ hi,true,Cq.wp.yes d.1 ?_,Cq.wp.no ĳ rfl⟩;exact ă d.2
 exact Cq.wp.no ŉ rfl
theorem Zvs{s:Ŀ Int}(h:lC s):(Lr s).ω true:=by
 have key:=zb s (by have:=h.1;omega) (λ_=>true) (step:=λa=>if a<(s.length:Int)then(Cq.Γ s a λc=>if c<(-1)then(Cq.ret (.inr (.inl false)))else(Cq.Γ s a λd=>if 1<d then Cq.fail else(Cq.ret (.inl (i64.wrap (a+1))))))else(Cq.ret (.inr (.inr ())))) (λi hi=>?_) ?_
 .have e:(s.all λ_=>true)=true:=Ć.2 λ_ _=>rfl;rw[e]at key;exact Cq.fj key rfl
 .have f:=h.2 _ (Ă hi);exact Cq.wp.yes ŉ ⟨_,Λ hi,Cq.wp.no ŉ ⟨_,Λ hi,Cq.wp.no ŉ rfl⟩⟩
 exact Cq.wp.no ŉ rfl
def ni(x y m:Int):Ŀ Zl:=[mg x m,mg y m,mg 0 0,mg 0 0,mg 0 0,mg 0 0,mg 0 0,mg 0 0]
def nW(b:Ŀ Zl):Prop:=∃x y m,gQ x/\gQ y/\iD m/\b=ni x y m
def lk(x:Zl):Bool:=x.lo.num.υ.isEmpty&&x.hi.num.υ.isEmpty
def ik(n:Int)(b:Ŀ Zl):Bool:=decide (2<=n) || (b[1]?.map lk).getD true
theorem Zz5:(á (-128) 127 λn=>(Μ (nS n)).num.υ.isEmpty == decide (n=0))=true:=by decide +kernel
theorem ZzZ:(á 0 7 λm=>(Μ (o9 0 m)).num.υ.isEmpty == decide (m=0))=true:=by decide +kernel
def wK(n m:Int):Bool:=decide (n=0)&&decide (m=0)
theorem TZ{n m:Int}(h:gQ n)(c:iD m):lk (mg n m)=wK n m:=by
 have l:=eq_of_beq (Zs Zz5 h.1 h.2);unfold lk wK;show((Μ (nS n)).num.υ.isEmpty&&(Μ (o9 n m)).num.υ.isEmpty)=_;rw[l];by_cases a:n=0
 .subst a;rw[eq_of_beq (Zs ZzZ c.1 c.2)]
 rw[Ĉ a];rfl
theorem UO{n m:Int}(h:gQ n)(c:iD m):∃a b:Bool,(vx (mg n m).lo).ω a/\(tC (mg n m).lo).ω a/\(a=true->(vx (mg n m).hi).ω b/\(tC (mg n m).hi).ω b)/\lk (mg n m)=(a&&b):=by rw[TZ h c];refine⟨_,_,(UQ h).1,(UQ h).2,λe=>?_,rfl⟩;have e:=Ĥ e;subst e;exact ZzY c
theorem Mw{x y m:Int}(e:gQ x)(f:gQ y)(a:iD m){k:Nat}(c:k<8):∃n d,gQ n/\iD d/\(0:Int)<=(k:Int)/\(ni x y m)[(k:Int).toNat]?=some (mg n d)/\(2<=k->n=0/\d=0)/\(k=1->n=y/\d=m):=by
 have z:gQ 0/\iD 0:=ĳ;match k,c with
 |0,_=>exact⟨x,m,e,a,ĳ,rfl,λh=>absurd h ĳ,λh=>absurd h ĳ⟩
 |1,_=>exact⟨y,m,f,a,ĳ,rfl,λh=>absurd h ĳ,λ_=>⟨rfl,rfl⟩⟩
 |2,_=>exact⟨0,0,z.1,z.2,ĳ,rfl,λ_=>⟨rfl,rfl⟩,λh=>absurd h ĳ⟩
 |3,_=>exact⟨0,0,z.1,z.2,ĳ,rfl,λ_=>⟨rfl,rfl⟩,λh=>absurd h ĳ⟩
 |4,_=>exact⟨0,0,z.1,z.2,ĳ,rfl,λ_=>⟨rfl,rfl⟩,λh=>absurd h ĳ⟩
 |5,_=>exact⟨0,0,z.1,z.2,ĳ,rfl,λ_=>⟨rfl,rfl⟩,λh=>absurd h ĳ⟩
 |6,_=>exact⟨0,0,z.1,z.2,ĳ,rfl,λ_=>⟨rfl,rfl⟩,λh=>absurd h ĳ⟩
 |7,_=>exact⟨0,0,z.1,z.2,ĳ,rfl,λ_=>⟨rfl,rfl⟩,λh=>absurd h ĳ⟩
def gl(n:Int)(b:Ŀ Zl)(k:Nat):Bool:=decide ((k:Int)<n) || (b[(k:Int).toNat]?.map lk).getD true
theorem Ta{n:Int}(q:1<=n/\n<=4){b:Ŀ Zl}(h:nW b):(List.range 8).all (gl n b)=ik n b:=by
 obtain⟨x,y,m,j,l,i,rfl⟩:=h;have z:∀k,2<=k->k<8->gl n (ni x y m) k=true:=λk h2 g=>by obtain⟨a,d,_,_,_,e,p,_⟩:=Mw j l i g;obtain⟨rfl,rfl⟩:=p h2;unfold gl;rw[e];show(_ || lk (mg 0 0))=true;rw[TZ ĳ ĳ];exact abE _
 have c:gl n (ni x y m) 0=true:=by unfold gl;rw[decide_eq_true (show((0:Nat):Int)<n by omega)];rfl
 have f:gl n (ni x y m) 1=ik n (ni x y m):=by unfold gl ik;have:decide (((1:Nat):Int)<n)=decide (2<=n):=ũ.2 ⟨λh=>by omega,λh=>by omega⟩;rw[this];rfl
 show(gl n _ 0&&(gl n _ 1&&(gl n _ 2&&(gl n _ 3&&(gl n _ 4&&(gl n _ 5&&(gl n _ 6&&(gl n _ 7&&true))))))))=_;rw[c,f,z 2 ĳ ĳ,z 3 ĳ ĳ,z 4 ĳ ĳ,z 5 ĳ ĳ,z 6 ĳ ĳ,z 7 ĳ ĳ];simp
theorem Zzv{k:Zd}(p:1<=k.n/\k.n<=4){b:Ŀ Zl}(h:nW b):(dR ⟨k⟩ b).ω (ik k.n b):=by
 rw[<-Ta p h];obtain⟨x,y,m,q,r,n,rfl⟩:=h;refine xF (By 8 ĳ (gl k.n (ni x y m)) (λi hi=>?_) ?_) rfl rfl
 .obtain⟨a,d,g,j,f,e,_,_⟩:=Mw q r n hi;unfold gl;rw[e];show Cq.wp _ λo=>o=if(_ || lk (mg a d))=true then _ else _;by_cases c:(i:Int)<k.n
  .rw[ă c,ŭ,ą rfl];exact Cq.wp.yes ŉ ⟨_,⟨f,e⟩,Cq.wp.yes c ⟨true,Zot g j,Cq.wp.no (by show ¬k.n<=(i:Int);omega) rfl⟩⟩
  rw[Ĉ c,Ł];obtain⟨u,v,t,s,z3,l⟩:=UO g j;rw[l];refine Cq.wp.yes ŉ ⟨_,⟨f,e⟩,Cq.wp.no c (Cq.wp.yes (by show k.n<=(i:Int);omega) ⟨u,s,?_⟩)⟩;cases u with
  |false=>rfl
  |true=>
   refine⟨v,(z3 rfl).2,?_⟩;cases v with
   |false=>exact Cq.wp.yes rfl rfl
   |true=>exact Cq.wp.no ĳ rfl
 exact Cq.wp.no ĳ rfl
def kq(b:Ŀ (Ŀ Zl)):Prop:=b.length<=3/\∀x∈b,nW x
theorem S7{k:Zd}(a:1<=k.n/\k.n<=4){l:Ŀ (Ŀ Zl)}(h:kq l):(Â ⟨k⟩ l).ω (l.all (ik k.n)):=by
 have c:=h.1;refine Cq.wp.yes ŉ ⟨_,xF (zb l ŉ (ik k.n) (λi hi=>?_) ?_) rfl rfl,rfl⟩
 .refine Cq.wp.yes ŉ ⟨_,Λ hi,_,Zzv a (h.2 _ (Ă hi)),?_⟩;cases ik k.n l[i]with
  |false=>exact Cq.wp.yes rfl rfl
  |true=>exact Cq.wp.no ĳ rfl
 exact Cq.wp.no ŉ rfl
theorem Zzr{n:Int}(t:1<=n/\n<=4){l:Ŀ (Ŀ Zl)}{j:Nat}(r:j<l.length)(h:nW l[j]):(QO l n (j:Int) 0).wp λo=>o=if ik n l[j]=true then .inr ()else .inl false:=by
 rw[<-Ta t h];have ki:=Λ r;obtain⟨x,y,m,A,B,s,p⟩:=h;rw[p]at ki⊢;refine By 8 ĳ (gl n (ni x y m)) (λi hi=>?_) ?_
 .obtain⟨a,d,f,g,c,e,_,_⟩:=Mw A B s hi;unfold gl;rw[e];show Cq.wp _ λo=>o=if(_ || lk (mg a d))=true then _ else _;by_cases k:(i:Int)<n
  .rw[ă k,ŭ,ą rfl];exact Cq.wp.yes ŉ ⟨_,ki,_,⟨c,e⟩,true,Qs f g,Cq.wp.no ŉ rfl⟩
  rw[Ĉ k,Ł];obtain⟨u,v,C,D,z3,q⟩:=UO f g;rw[q];refine Cq.wp.yes ŉ ⟨_,ki,_,⟨c,e⟩,true,Qs f g,Cq.wp.yes ŉ ⟨_,ki,_,⟨c,e⟩,u,C,?_⟩⟩;cases u with
  |false=>rfl
  |true=>
   refine⟨_,ki,_,⟨c,e⟩,v,(z3 rfl).1,?_⟩;cases v with
   |false=>exact Cq.wp.yes rfl rfl
   |true=>exact Cq.wp.no ĳ rfl
 exact Cq.wp.no ĳ rfl
theorem Sa{n:Int}(a:1<=n/\n<=4){l:Ŀ (Ŀ Zl)}(h:kq l):(FQ l n).ω (l.all (ik n)):=by
 have c:=h.1;refine Cq.wp.no ŉ (xF (zb l ŉ (ik n) (λi hi=>?_) ?_) rfl rfl)
 .refine Cq.wp.yes ŉ (Cq.fj (Zzr a hi (h.2 _ (Ă hi))) ?_);cases ik n l[i]with
  |false=>rfl
  |true=>rfl
 exact Cq.wp.no ŉ rfl
end Go.EL

namespace Go.EL
open Go.IntKind (i8 i16 i32 i64 u8 u16 u32 u64)
open Go Go.RowKit
theorem Cq.wp.nr{α:Type}{p:Prop}[Decidable p]{A B:Cq α}{q:α->Prop}(e:decide p=false)(h:B.wp q):(if p then A else B).wp q:=Cq.wp.no (aa0 e) h
def rO(l:Ŀ Ó):Prop:=l.length<=3/\∀p∈l,ψ p
inductive Ë:Zk->Prop
 |hU (c:Int) (p:Ó):c=1\/c=2\/c=10->ψ p->Ë ⟨c,p,0,0,0,[],[],[],[]⟩
 |nil (c:Int):c=3\/c=9->Ë ⟨c,[],0,0,0,[],[],[],[]⟩
 |Hd (o:Ord) (l:Ŀ Ó):o∈kU->rO l->Ë ⟨4,[],0,0,0,o,l,[],[]⟩
 |B1 (n d:Int):0<=n/\n<=15->-1<=d/\d<=2->Ë ⟨5,[],n,d,0,[],[],[],[]⟩
 |HY (n d r:Int):0<=r/\r<=d/\d<=n/\n<=7->Ë ⟨6,[],n,d,r,[],[],[],[]⟩
 |box (b:Ŀ (Ŀ Zl)):kq b->Ë ⟨7,[],0,0,0,[],[],[],b⟩
 |sig (p:Ó) (s:Ŀ Int) (b:Ŀ (Ŀ Zl)):ψ p->lC s->s.length=b.length->kq b->Ë ⟨8,p,0,0,0,[],[],s,b⟩
 |u4 (l:Ŀ Ó):rO l->Ë ⟨11,[],0,0,0,[],l,[],[]⟩
 |zL (c n:Int):c=12\/c=13->0<=n/\n<=7->Ë ⟨c,[],n,0,0,[],[],[],[]⟩
def ã(k:Zd)(c:Zk):Bool:=fP c.p k.n 12&&c.l.all (λp=>fP p k.n 64)&&c.b.all (ik k.n)&&(decide (c.kind≠5) || decide (c.d<=k.n))
theorem oN{n:Int}:fP [] n 12=true:=by have h:(ð []).toNat<2 ^ n.toNat:=aad _;unfold fP;rw[ă h];rfl
theorem tA:(ZP ⟨0,[],0,0,0,[],[],[],[]⟩).ω true:=Cq.ω.mj 20 (by decide +kernel)
theorem Zoh{k:Zd}(h:å k){c:Zk}(u:Ë c):(E1 k c).ω (ã k c):=by
 have i:=h.n;have B:(Ã ⟨k⟩).ω true:=by have:=Fs h;obtain⟨v,t,h2⟩:=this;have h2:v=true:=h2;subst h2;exact t
 refine⟨_,⟨true,B,Cq.wp.nr rfl ?_⟩,rfl⟩;cases u with
 |hU c p g hp=>
  have e:ã k ⟨c,p,0,0,0,[],[],[],[]⟩=fP p k.n 12:=by unfold ã;rw[ă (show c≠5 by omega)];simp
  rw[e];have k3:(í ⟨⟨k⟩,⟨c,p,0,0,0,[],[],[],[]⟩⟩ true).ω (fP p k.n 12):=by
   refine Cq.wp.yes rfl ⟨_,KG i hp 12,?_⟩;cases fP p k.n 12 with
   |false=>exact Cq.wp.nr rfl rfl
   |true=>exact Cq.wp.yes rfl ⟨_,tA,rfl⟩
  rcases g with rfl|rfl|rfl
  .exact Cq.wp.yes rfl k3
  .exact Cq.wp.nr rfl (Cq.wp.yes rfl k3)
  exact Cq.wp.nr rfl (Cq.wp.nr rfl k3)
 |nil c g=>
  have e:ã k ⟨c,[],0,0,0,[],[],[],[]⟩=true:=by unfold ã;rw[ă (show c≠5 by omega),oN];rfl
  rw[e];have k2:(ù ⟨⟨k⟩,⟨c,[],0,0,0,[],[],[],[]⟩⟩ true).ω true:=Cq.wp.yes rfl (by
   rcases g with rfl|rfl
   .exact⟨_,tA,rfl⟩
   exact⟨_,tA,rfl⟩)
  rcases g with rfl|rfl
  .exact Cq.wp.nr rfl (Cq.wp.nr rfl (Cq.wp.nr rfl (Cq.wp.yes rfl k2)))
  exact Cq.wp.nr rfl (Cq.wp.nr rfl (Cq.wp.nr rfl (Cq.wp.nr rfl k2)))
 |Hd o l y f=>
  have e:ã k ⟨4,[],0,0,0,o,l,[],[]⟩=l.all λp=>fP p k.n 64:=by unfold ã;rw[oN];simp
  rw[e];refine Cq.wp.nr rfl (Cq.wp.nr rfl (Cq.wp.nr rfl (Cq.wp.nr rfl (Cq.wp.nr rfl (Cq.wp.yes rfl ⟨true,Fq (kK.of (ka.b (.inl y)).1),_,Ty i f.1 f.2,?_⟩)))));cases l.all λp=>fP p k.n 64 with
  |false=>exact Cq.wp.nr rfl rfl
  |true=>exact Cq.wp.yes rfl ⟨_,tA,rfl⟩
 |B1 n d j x=>
  have e:ã k ⟨5,[],n,d,0,[],[],[],[]⟩=decide (d<=k.n):=by unfold ã;rw[oN];simp
  rw[e];refine Cq.wp.nr rfl (Cq.wp.nr rfl (Cq.wp.nr rfl (Cq.wp.nr rfl (Cq.wp.nr rfl (Cq.wp.nr rfl (Cq.wp.yes rfl (Cq.wp.yes x.1 ?_)))))));by_cases a:d<=k.n
  .rw[ă a];exact Cq.wp.yes a ⟨true,Cq.wp.yes j.1 (ă (show n<=1000000 by omega)),Cq.wp.yes rfl ⟨_,tA,rfl⟩⟩
  rw[Ĉ a];exact Cq.wp.no a rfl
 |HY n d r hr=>
  have e:ã k ⟨6,[],n,d,r,[],[],[],[]⟩=true:=by unfold ã;rw[oN];rfl
  rw[e];refine Cq.wp.nr rfl (Cq.wp.nr rfl (Cq.wp.nr rfl (Cq.wp.nr rfl (Cq.wp.nr rfl (Cq.wp.nr rfl (Cq.wp.nr rfl (Cq.wp.yes rfl ?_)))))));exact Cq.wp.yes hr.1 (Cq.wp.yes hr.2.1 (Cq.wp.yes hr.2.2.1 ⟨true,Cq.wp.yes (show 0<=n by omega) (ă (show n<=1000000 by omega)),Cq.wp.yes rfl ⟨_,tA,rfl⟩⟩))
 |box b m=>
  have e:ã k ⟨7,[],0,0,0,[],[],[],b⟩=b.all (ik k.n):=by unfold ã;rw[oN];simp
  rw[e];refine Cq.wp.nr rfl (Cq.wp.nr rfl (Cq.wp.nr rfl (Cq.wp.nr rfl (Cq.wp.nr rfl (Cq.wp.nr rfl (Cq.wp.nr rfl (Cq.wp.nr rfl (Cq.wp.yes rfl ⟨_,S7 i m,?_⟩))))))));cases b.all (ik k.n)with
  |false=>exact Cq.wp.nr rfl rfl
  |true=>exact Cq.wp.yes rfl ⟨_,tA,rfl⟩
 |sig p s b hp A f m=>
  have e:ã k ⟨8,p,0,0,0,[],[],s,b⟩=(fP p k.n 12&&b.all (ik k.n)):=by unfold ã;simp
  rw[e];refine Cq.wp.nr rfl (Cq.wp.nr rfl (Cq.wp.nr rfl (Cq.wp.nr rfl (Cq.wp.nr rfl (Cq.wp.nr rfl (Cq.wp.nr rfl (Cq.wp.nr rfl (Cq.wp.nr rfl (Cq.wp.yes rfl ⟨_,KG i hp 12,?_⟩)))))))));cases fP p k.n 12 with
  |false=>rfl
  |true=>
   refine⟨_,S7 i m,?_⟩;cases b.all (ik k.n)with
   |false=>rfl
   |true=>exact Cq.wp.yes (show(s.length:Int)=(b.length:Int) by rw[f]) ⟨true,ZxA A,Cq.wp.yes rfl ⟨_,tA,rfl⟩⟩
 |u4 l f=>
  have e:ã k ⟨11,[],0,0,0,[],l,[],[]⟩=l.all λp=>fP p k.n 64:=by unfold ã;rw[oN];simp
  rw[e];refine Cq.wp.nr rfl (Cq.wp.nr rfl (Cq.wp.nr rfl (Cq.wp.nr rfl (Cq.wp.nr rfl (Cq.wp.nr rfl (Cq.wp.nr rfl (Cq.wp.nr rfl (Cq.wp.nr rfl (Cq.wp.nr rfl (Cq.wp.yes rfl ⟨_,Ty i f.1 f.2,?_⟩))))))))));cases l.all λp=>fP p k.n 64 with
  |false=>exact Cq.wp.nr rfl rfl
  |true=>exact Cq.wp.yes rfl ⟨_,tA,rfl⟩
 |zL c n g j=>
  have e:ã k ⟨c,[],n,0,0,[],[],[],[]⟩=true:=by unfold ã;rw[ă (show c≠5 by omega),oN];rfl
  rw[e];have q:(ø ⟨⟨k⟩,⟨c,[],n,0,0,[],[],[],[]⟩⟩ true).ω true:=
   Cq.wp.yes rfl ⟨true,Cq.wp.yes j.1 (ă (show n<=1000000 by omega)),Cq.wp.yes rfl ⟨_,tA,rfl⟩⟩
  rcases g with rfl|rfl
  .exact Cq.wp.nr rfl (Cq.wp.nr rfl (Cq.wp.nr rfl (Cq.wp.nr rfl (Cq.wp.nr rfl (Cq.wp.nr rfl (Cq.wp.nr rfl (Cq.wp.nr rfl (Cq.wp.nr rfl (Cq.wp.nr rfl (Cq.wp.nr rfl (Cq.wp.yes rfl q)))))))))))
  exact Cq.wp.nr rfl (Cq.wp.nr rfl (Cq.wp.nr rfl (Cq.wp.nr rfl (Cq.wp.nr rfl (Cq.wp.nr rfl (Cq.wp.nr rfl (Cq.wp.nr rfl (Cq.wp.nr rfl (Cq.wp.nr rfl (Cq.wp.nr rfl (Cq.wp.nr rfl q)))))))))))
end Go.EL

namespace Go.EL
open Go.IntKind (i8 i16 i32 i64 u8 u16 u32 u64)
open Go Go.RowKit
theorem Zvo{k:Zd}(h:å k){c:Zk}(y:Ë c):(FP k c).ω (ã k c):=by
 have m:=h.n;refine⟨true,Kq h,Cq.wp.nr rfl ?_⟩;have a:(xl [] k.n 12).ω true:=by have:=E4 m (ψ.of ĳ:ψ []) 12;rwa [oN]at this
 cases y with
 |hU c p q hp=>
  have e:ã k ⟨c,p,0,0,0,[],[],[],[]⟩=fP p k.n 12:=by unfold ã;rw[ă (show c≠5 by omega)];simp
  rw[e];refine Cq.wp.yes rfl (Cq.wp.yes rfl ⟨_,E4 m hp 12,?_⟩);have k3:(AI k ⟨c,p,0,0,0,[],[],[],[]⟩ (decide ((0:Int)=0)) (fP p k.n 12) true).ω (fP p k.n 12):=by
   refine Cq.wp.yes rfl ?_;cases fP p k.n 12 with
   |false=>exact Cq.wp.nr rfl rfl
   |true=>exact Cq.wp.yes rfl (Cq.wp.yes rfl (Cq.wp.yes rfl (Cq.wp.yes rfl (Cq.wp.yes rfl rfl))))
  rcases q with rfl|rfl|rfl
  .exact Cq.wp.yes rfl k3
  .exact Cq.wp.nr rfl (Cq.wp.yes rfl k3)
  exact Cq.wp.nr rfl (Cq.wp.nr rfl k3)
 |nil c q=>
  have e:ã k ⟨c,[],0,0,0,[],[],[],[]⟩=true:=by unfold ã;rw[ă (show c≠5 by omega),oN];rfl
  rw[e];refine Cq.wp.yes rfl (Cq.wp.yes rfl ⟨_,a,?_⟩);have k2:(EJ k ⟨c,[],0,0,0,[],[],[],[]⟩ (decide ((0:Int)=0)) true true).ω true:=
   Cq.wp.yes rfl (Cq.wp.yes rfl (Cq.wp.yes rfl (Cq.wp.yes rfl (Cq.wp.yes rfl (Cq.wp.yes rfl rfl)))))
  rcases q with rfl|rfl
  .exact Cq.wp.nr rfl (Cq.wp.nr rfl (Cq.wp.nr rfl (Cq.wp.yes rfl k2)))
  exact Cq.wp.nr rfl (Cq.wp.nr rfl (Cq.wp.nr rfl (Cq.wp.nr rfl k2)))
 |Hd o l B j=>
  have e:ã k ⟨4,[],0,0,0,o,l,[],[]⟩=l.all λp=>fP p k.n 64:=by unfold ã;rw[oN];simp
  rw[e];refine Cq.wp.yes rfl (Cq.wp.yes rfl ⟨_,a,Cq.wp.nr rfl (Cq.wp.nr rfl (Cq.wp.nr rfl (Cq.wp.nr rfl (Cq.wp.nr rfl (Cq.wp.yes rfl ?_)))))⟩);exact Cq.wp.yes rfl (Cq.wp.yes rfl (Cq.wp.yes rfl (Cq.wp.yes rfl ⟨true,E0 (kK.of (ka.b (.inl B)).1),Cq.wp.yes (by have:=j.1;show(l.length:Int)<=64;omega) ⟨_,SY m j.1 j.2,rfl⟩⟩)))
 |B1 n d t A=>
  have e:ã k ⟨5,[],n,d,0,[],[],[],[]⟩=decide (d<=k.n):=by unfold ã;rw[oN];simp
  rw[e];have g:∀v,(wY k ⟨5,[],n,d,0,[],[],[],[]⟩ v).ω (decide (d<=k.n)):=λv=>by
   refine⟨_,a,Cq.wp.nr rfl (Cq.wp.nr rfl (Cq.wp.nr rfl (Cq.wp.nr rfl (Cq.wp.nr rfl (Cq.wp.nr rfl (Cq.wp.yes rfl ?_))))))⟩;refine Cq.wp.yes rfl (Cq.wp.yes rfl (Cq.wp.yes rfl (Cq.wp.yes rfl (Cq.wp.yes rfl (Cq.wp.yes rfl (Cq.wp.yes A.1 ?_))))));by_cases i:d<=k.n
   .rw[ă i];exact Cq.wp.yes i ⟨true,Cq.wp.yes t.1 (ă (show n<=1000000 by omega)),rfl⟩
   rw[Ĉ i];exact Cq.wp.no i rfl
  by_cases f:n=0
  .by_cases h2:d=0
   .exact Cq.wp.yes f (Cq.wp.yes h2 (g _))
   exact Cq.wp.yes f (Cq.wp.no h2 (g _))
  exact Cq.wp.no f (g _)
 |HY n d r hr=>
  have e:ã k ⟨6,[],n,d,r,[],[],[],[]⟩=true:=by unfold ã;rw[oN];rfl
  rw[e];have g:∀v,(wY k ⟨6,[],n,d,r,[],[],[],[]⟩ v).ω true:=λv=>by refine⟨_,a,Cq.wp.nr rfl (Cq.wp.nr rfl (Cq.wp.nr rfl (Cq.wp.nr rfl (Cq.wp.nr rfl (Cq.wp.nr rfl (Cq.wp.nr rfl (Cq.wp.yes rfl ?_)))))))⟩;exact Cq.wp.yes rfl (Cq.wp.yes rfl (Cq.wp.yes rfl (Cq.wp.yes rfl (Cq.wp.yes rfl ⟨true,Cq.wp.yes (show 0<=n by omega) (ă (show n<=1000000 by omega)),Cq.wp.yes hr.1 (Cq.wp.yes hr.2.1 (ă hr.2.2.1))⟩))))
  by_cases f:n=0
  .by_cases h2:d=0
   .exact Cq.wp.yes f (Cq.wp.yes h2 (g _))
   exact Cq.wp.yes f (Cq.wp.no h2 (g _))
  exact Cq.wp.no f (g _)
 |box b u=>
  have e:ã k ⟨7,[],0,0,0,[],[],[],b⟩=b.all (ik k.n):=by unfold ã;rw[oN];simp
  rw[e];refine Cq.wp.yes rfl (Cq.wp.yes rfl ⟨_,a,Cq.wp.nr rfl (Cq.wp.nr rfl (Cq.wp.nr rfl (Cq.wp.nr rfl (Cq.wp.nr rfl (Cq.wp.nr rfl (Cq.wp.nr rfl (Cq.wp.nr rfl (Cq.wp.yes rfl ?_))))))))⟩);exact Cq.wp.yes rfl (Cq.wp.yes rfl (Cq.wp.yes rfl (Cq.wp.yes rfl (Cq.wp.yes rfl ⟨_,Sa m u,rfl⟩))))
 |sig p s b hp C j u=>
  have e:ã k ⟨8,p,0,0,0,[],[],s,b⟩=(fP p k.n 12&&b.all (ik k.n)):=by unfold ã;simp
  rw[e];refine Cq.wp.yes rfl (Cq.wp.yes rfl ⟨_,E4 m hp 12,Cq.wp.nr rfl (Cq.wp.nr rfl (Cq.wp.nr rfl (Cq.wp.nr rfl (Cq.wp.nr rfl (Cq.wp.nr rfl (Cq.wp.nr rfl (Cq.wp.nr rfl (Cq.wp.nr rfl (Cq.wp.yes rfl ?_)))))))))⟩);cases fP p k.n 12 with
  |false=>exact Cq.wp.nr rfl rfl
  |true=>
   refine Cq.wp.yes rfl (Cq.wp.yes rfl (Cq.wp.yes rfl (Cq.wp.yes rfl ⟨_,Sa m u,?_⟩)));cases b.all (ik k.n)with
   |false=>rfl
   |true=>exact Cq.wp.yes (show(s.length:Int)=(b.length:Int) by rw[j]) ⟨true,Zvs C,rfl⟩
 |u4 l j=>
  have e:ã k ⟨11,[],0,0,0,[],l,[],[]⟩=l.all λp=>fP p k.n 64:=by unfold ã;rw[oN];simp
  rw[e];refine Cq.wp.yes rfl (Cq.wp.yes rfl ⟨_,a,Cq.wp.nr rfl (Cq.wp.nr rfl (Cq.wp.nr rfl (Cq.wp.nr rfl (Cq.wp.nr rfl (Cq.wp.nr rfl (Cq.wp.nr rfl (Cq.wp.nr rfl (Cq.wp.nr rfl (Cq.wp.nr rfl (Cq.wp.yes rfl ?_))))))))))⟩);exact Cq.wp.yes rfl (Cq.wp.yes rfl (Cq.wp.yes rfl (Cq.wp.yes rfl (Cq.wp.yes rfl (Cq.wp.yes (by have:=j.1;show(l.length:Int)<=64;omega) ⟨_,SY m j.1 j.2,rfl⟩)))))
 |zL c n q t=>
  have e:ã k ⟨c,[],n,0,0,[],[],[],[]⟩=true:=by unfold ã;rw[ă (show c≠5 by omega),oN];rfl
  rw[e];have x:(EI ⟨c,[],n,0,0,[],[],[],[]⟩ true).ω true:=
   Cq.wp.yes rfl (Cq.wp.yes rfl (Cq.wp.yes rfl (Cq.wp.yes rfl (Cq.wp.yes rfl (Cq.wp.yes rfl (Cq.wp.yes rfl (Cq.wp.yes rfl ⟨true,Cq.wp.yes t.1 (ă (show n<=1000000 by omega)),rfl⟩)))))))
  have g:∀v,(wY k ⟨c,[],n,0,0,[],[],[],[]⟩ v).ω true:=λv=>by
   refine⟨_,a,?_⟩;rcases q with rfl|rfl
   .exact Cq.wp.nr rfl (Cq.wp.nr rfl (Cq.wp.nr rfl (Cq.wp.nr rfl (Cq.wp.nr rfl (Cq.wp.nr rfl (Cq.wp.nr rfl (Cq.wp.nr rfl (Cq.wp.nr rfl (Cq.wp.nr rfl (Cq.wp.nr rfl (Cq.wp.yes rfl x)))))))))))
   exact Cq.wp.nr rfl (Cq.wp.nr rfl (Cq.wp.nr rfl (Cq.wp.nr rfl (Cq.wp.nr rfl (Cq.wp.nr rfl (Cq.wp.nr rfl (Cq.wp.nr rfl (Cq.wp.nr rfl (Cq.wp.nr rfl (Cq.wp.nr rfl (Cq.wp.nr rfl x)))))))))))
  by_cases f:n=0
  .exact Cq.wp.yes f (Cq.wp.yes rfl (g _))
  exact Cq.wp.no f (g _)
end Go.EL

namespace Go.EL
open Go.IntKind (i8 i16 i32 i64 u8 u16 u32 u64)
open Go Go.RowKit
theorem S8{p q:Ó}(hp:ψ p)(a:ψ q):decide (ê p q=0)=decide (p=q):=by refine ũ.2 ⟨Ba hp.gq a.gq,?_⟩;rintro rfl;exact xB p
theorem Ti{p q:Ó}(hp:ψ p)(a:ψ q):(ZV p q).ω (decide (p=q)):=by have:=Fp hp.gq a.gq;rwa [S8 hp a]at this
theorem Se{p q:Ó}(hp:ψ p)(a:ψ q):(tX p q).ω (decide (p=q)):=by have:=Kv hp.gq a.gq;rwa [S8 hp a]at this
def oq(a b:Ord)(k:Nat):Bool:=decide (a[k]?=b[k]?)
theorem T9{a b:Ord}(h:a.length=b.length):(List.range a.length).all (oq a b)=decide (a=b):=by
 rw[abJ,Ć,Ě];constructor
 .intro c;refine Ÿ λk=>?_;by_cases d:k<a.length
  .exact Ĥ (c k (Ľ.2 d))
  rw[ń ŉ,ń ŉ]
 rintro rfl k _;exact ă rfl
theorem T8{a b:Ord}{k:Nat}(c:k<a.length)(d:k<b.length):oq a b k=decide (a[k]=b[k]):=by unfold oq;rw[Ą c,Ą d];exact ũ.2 ⟨λe=>Ŧ e,λe=>Ē some e⟩
theorem ZsO{a b:Ord}(f:a.length<=1000):(Er a b).ω (decide (a=b)):=by
 by_cases d:a.length=b.length
 .refine Cq.wp.no (λe=>e ŉ) ?_;rw[<-T9 d];refine xF (By a.length f (oq a b) (λk c=>?_) ?_) rfl rfl
  .rw[T8 c ŉ];refine Cq.wp.yes ŉ ⟨_,Λ c,_,Λ (show k<b.length by omega),?_⟩;by_cases e:a[k]=b[k]
   .rw[ă e];exact Cq.wp.no (λh=>h e) rfl
   rw[Ĉ e];exact Cq.wp.yes e rfl
  exact Cq.wp.no ŉ rfl
 refine Cq.wp.yes ŉ ?_;show _=_;rw[Ĉ λe=>d (Ē List.length e)]
theorem ZpO{a b:Ord}(f:a.length<=1000):(F0 a b).ω (decide (a=b)):=by
 by_cases d:a.length=b.length
 .refine Cq.wp.no (λe=>e ŉ) ?_;rw[<-T9 d];refine xF (By a.length f (oq a b) (λk c=>?_) ?_) rfl rfl
  .rw[T8 c ŉ];refine Cq.wp.yes ŉ ⟨_,Λ c,_,Λ (show k<b.length by omega),?_⟩;by_cases e:a[k]=b[k]
   .rw[ă e];exact Cq.wp.no (λh=>h e) rfl
   rw[Ĉ e];exact Cq.wp.yes e rfl
  exact Cq.wp.no ŉ rfl
 refine Cq.wp.yes ŉ ?_;show _=_;rw[Ĉ λe=>d (Ē List.length e)]
theorem Ë.parts{c:Zk}(h:Ë c):ψ c.p/\ka c.o/\(0<=c.n/\c.n<=15)/\(0<=c.r/\c.r<=15)/\c.b.length<=3:=by
 have p0:ψ []:=ψ.of ĳ;have o0:ka []:=(fb.nil 0).o;have z:(0:Int)<=0/\(0:Int)<=15:=ĳ;have l0:([]:Ŀ (Ŀ Zl)).length<=3:=ĳ;cases h with
 |hU c p _ hp=>exact⟨hp,o0,z,z,l0⟩
 |nil c _=>exact⟨p0,o0,z,z,l0⟩
 |Hd o l f _=>exact⟨p0,.inl f,z,z,l0⟩
 |B1 n d e _=>exact⟨p0,o0,e,z,l0⟩
 |HY n d r h=>exact⟨p0,o0,by show 0<=n/\n<=15;omega,by show 0<=r/\r<=15;omega,l0⟩
 |box b a=>exact⟨p0,o0,z,z,a.1⟩
 |sig p s b hp _ _ a=>exact⟨hp,o0,z,z,a.1⟩
 |u4 l _=>exact⟨p0,o0,z,z,l0⟩
 |zL c n _ e=>exact⟨p0,o0,by show 0<=n/\n<=15;omega,z,l0⟩
def qN(k:Zd)(q:Zc)(c:Zk):Bool:=
 if q.kind=1 then decide (c.kind=1\/c.kind=2)&&decide (q.p=c.p)
 else if q.kind=2 then decide (c.kind=3) || (decide (c.kind=2)&&decide (k.neqs=[])&&decide (c.p=iY))
 else if q.kind=3 then decide (c.kind=4)&&decide (q.o=c.o)
 else if q.kind=4 then decide (c.kind=5)
 else if q.kind=5 then decide (c.kind=6)
 else if q.kind=6 then decide (c.kind=7)
 else if q.kind=7 then decide (c.kind=8)&&decide (q.p=c.p)
 else if q.kind=8 then decide (c.kind=9) || decide (c.kind=6) || (decide (c.kind=13)&&decide (1<=c.n))
 else if q.kind=9 then decide (c.kind=10)&&decide (q.p=c.p)
 else if q.kind=10 then decide (c.kind=11)else false
theorem ZU{α:Type}{p:Prop}[Decidable p]{A B:Cq α}{a b:α}(c:p->A.ω a)(h2:¬p->B.ω b):(if p then A else B).ω (if p then a else b):=by
 by_cases h:p
 .refine Cq.wp.yes h ?_;rw[ą h];exact c h
 refine Cq.wp.no h ?_;rw[ā h];exact h2 h
theorem pG{p:Prop}[Decidable p]{A:Cq Bool}{b:Bool}(h:A.ω b):(if p then A else Cq.ret false).ω (decide p&&b):=by
 by_cases hp:p
 .rw[ă hp,Ť];exact Cq.wp.yes hp h
 rw[Ĉ hp,Ŷ];exact Cq.wp.no hp rfl
theorem CV{α:Type}[DecidableEq α](l:Ŀ α):decide ((l.length:Int)=0)=decide (l=[]):=by
 cases l with
 |nil=>rfl
 |cons a l=>simp;omega
theorem Zs4{k:Zd}{q:Zc}(j:fb q){c:Zk}(g:Ë c):(J5 k q c).ω (qN k q c):=by
 obtain⟨hp,i,_⟩:=g.parts;have f:(Cq.bind (ZV c.p q.p) λy=>Cq.ret y).ω (decide (q.p=c.p)):=by have:=Ti hp j.p;rw[show decide (c.p=q.p)=decide (q.p=c.p)from ũ.2 ⟨Eq.symm,Eq.symm⟩]at this;exact⟨_,this,rfl⟩
 have hr:(Cq.bind (Er c.o q.o) λy=>Cq.ret y).ω (decide (q.o=c.o)):=by have:=ZsO (b:=q.o) (show c.o.length<=1000 by have:=(kK.of i.b.1).len;omega);rw[show decide (c.o=q.o)=decide (q.o=c.o)from ũ.2 ⟨Eq.symm,Eq.symm⟩]at this;exact⟨_,this,rfl⟩
 unfold qN;refine ZU (λ_=>?_) λ_=>ZU (λ_=>?_) λ_=>ZU (λ_=>pG hr) λ_=>ZU (λ_=>rfl) λ_=>ZU (λ_=>rfl) λ_=>ZU (λ_=>rfl) λ_=>ZU (λ_=>pG f) λ_=>ZU (λ_=>?_) λ_=>ZU (λ_=>pG f) λ_=>ZU (λ_=>rfl) λ_=>rfl
 .by_cases a:c.kind=1
  .rw[ă (show c.kind=1\/c.kind=2 from .inl a),Ť];exact Cq.wp.yes a f
  rw[show decide (c.kind=1\/c.kind=2)=decide (c.kind=2)from ũ.2 ⟨λh=>h.resolve_left a,.inr⟩];exact Cq.wp.no a (pG f)
 .refine⟨ü 1,(xS (n:=1) ĳ).2,iY,qj,?_⟩;by_cases h3:c.kind=3
  .rw[ă h3,ŭ];exact Cq.wp.yes h3 rfl
  rw[Ĉ h3,Ł,Bool.and_assoc,<-CV];exact Cq.wp.no h3 (pG (pG ⟨_,Ti hp BD,rfl⟩))
 by_cases e:c.kind=9
 .rw[ă e,ŭ,ŭ];exact Cq.wp.yes e rfl
 rw[Ĉ e,Ł];refine Cq.wp.no e ?_;by_cases d:c.kind=6
 .rw[ă d,ŭ];exact Cq.wp.yes d rfl
 rw[Ĉ d,Ł];exact Cq.wp.no d (pG rfl)
theorem Zrs{k:Zd}{q:Zc}(f:fb q){c:Zk}(g:Ë c):(Km k q c).ω (qN k q c):=by
 obtain⟨hp,i,_⟩:=g.parts;refine⟨_,Se f.p hp,?_⟩;have hr:(Cq.bind (F0 q.o c.o) λy=>Cq.ret y).ω (decide (q.o=c.o)):=⟨_,ZpO (show q.o.length<=1000 by have:=(kK.of f.o.b.1).len;omega),rfl⟩;unfold qN;refine ZU (λ_=>?_) λ_=>ZU (λ_=>?_) λ_=>ZU (λ_=>pG hr) λ_=>ZU (λ_=>rfl) λ_=>ZU (λ_=>rfl) λ_=>ZU (λ_=>rfl) λ_=>ZU (λ_=>pG rfl) λ_=>ZU (λ_=>?_) λ_=>ZU (λ_=>pG rfl) λ_=>ZU (λ_=>rfl) λ_=>rfl
 .by_cases a:c.kind=1
  .rw[ă (show c.kind=1\/c.kind=2 from .inl a),Ť];exact Cq.wp.yes a rfl
  rw[show decide (c.kind=1\/c.kind=2)=decide (c.kind=2)from ũ.2 ⟨λh=>h.resolve_left a,.inr⟩];exact Cq.wp.no a (pG rfl)
 .by_cases h3:c.kind=3
  .rw[ă h3,ŭ];exact Cq.wp.yes h3 rfl
  rw[Ĉ h3,Ł,show(decide (c.kind=2)&&decide (k.neqs=[])&&decide (c.p=iY))=(decide (k.neqs=[])&&(decide (c.kind=2)&&decide (c.p=iY))) by rw[Bool.and_comm (decide (c.kind=2)),Bool.and_assoc],<-CV];exact Cq.wp.no h3 (pG (pG ⟨_,(xS (n:=1) ĳ).1,iY,qk,_,Se hp BD,rfl⟩))
 by_cases e:c.kind=9
 .rw[ă e,ŭ,ŭ];exact Cq.wp.yes e rfl
 rw[Ĉ e,Ł];refine Cq.wp.no e ?_;by_cases d:c.kind=6
 .rw[ă d,ŭ];exact Cq.wp.yes d rfl
 rw[Ĉ d,Ł];exact Cq.wp.no d (pG rfl)
def mo(q:Zc)(c:Zk):Int×Int:=
 if q.kind=5 then(if c.kind=6 then(c.n,c.n)else if c.kind=12 then(0,c.n)else(0,-1))
 else if q.kind=8\/q.kind=6 then(if c.kind=6 then(c.r,c.r)else if c.kind=7\/c.kind=8 then((c.b.length:Int),(c.b.length:Int))else if c.kind=9 then(0,0)else if c.kind=13 then(c.n,-1)else if c.kind=12 then(0,c.n)else(0,-1))
 else(0,-1)
theorem Zu5(q:Zc)(c:Zk):(JX q c).ω (mo q c):=by
 have e:(Ec c (decide (c.kind=8))).ω (if c.kind=8 then((c.b.length:Int),(c.b.length:Int))else if c.kind=9 then(0,0)else if c.kind=13 then(c.n,-1)else if c.kind=12 then(0,c.n)else(0,-1)):=by
  by_cases a:c.kind=8
  .rw[ą a];exact Cq.wp.yes (ă a) rfl
  rw[ā a];exact Cq.wp.no (by simpa using a) (ZU (λ_=>rfl) λ_=>ZU (λ_=>rfl) λ_=>ZU (λ_=>rfl) λ_=>rfl)
 have k2:(Ex c true).ω (if c.kind=6 then(c.r,c.r)else if c.kind=7\/c.kind=8 then((c.b.length:Int),(c.b.length:Int))else if c.kind=9 then(0,0)else if c.kind=13 then(c.n,-1)else if c.kind=12 then(0,c.n)else(0,-1)):=by
  refine Cq.wp.yes rfl (ZU (λ_=>rfl) λ_=>?_);by_cases h7:c.kind=7
  .rw[ą (Or.inl h7)];refine Cq.wp.yes h7 ?_;rw[ă h7];exact Cq.wp.yes rfl rfl
  refine Cq.wp.no h7 ?_;rw[show(if c.kind=7\/c.kind=8 then((c.b.length:Int),(c.b.length:Int))else if c.kind=9 then(0,0)else if c.kind=13 then(c.n,-1)else if c.kind=12 then(0,c.n)else(0,-1))=(if c.kind=8 then((c.b.length:Int),(c.b.length:Int))else if c.kind=9 then(0,0)else if c.kind=13 then(c.n,-1)else if c.kind=12 then(0,c.n)else(0,-1)) by simp only[h7,false_or]];exact e
 unfold mo;refine ZU (λ_=>ZU (λ_=>rfl) λ_=>ZU (λ_=>rfl) λ_=>rfl) λ_=>?_;by_cases a:q.kind=8
 .rw[ą (Or.inl a)];refine Cq.wp.yes a ?_;rw[ă a];exact k2
 refine Cq.wp.no a ?_;by_cases d:q.kind=6
 .rw[ą (Or.inr d),ă d];exact k2
 rw[ā ŉ,Ĉ d];exact Cq.wp.no ĳ rfl
end Go.EL

namespace Go.EL
open Go.IntKind (i8 i16 i32 i64 u8 u16 u32 u64)
open Go Go.RowKit
theorem zz{α:Type}{p:Prop}[Decidable p]{A B:Cq α}{a b:α}(c:p->A.ω a)(h2:¬p->B.ω b):(if decide p=true then A else B).ω (if p then a else b):=by
 by_cases h:p
 .refine Cq.wp.yes (ă h) ?_;rw[ą h];exact c h
 refine Cq.wp.no (by rw[Ĉ h];decide) ?_;rw[ā h];exact h2 h
theorem ZtL(q:Zc)(c:Zk):(KE q c).ω (mo q c):=by
 have i:(yQ c true false).ω (if c.kind=6 then(c.n,c.n)else if c.kind=12 then(0,c.n)else(0,-1)):=
  Cq.wp.yes rfl (zz (λ_=>rfl) λ_=>Cq.wp.yes rfl (zz (λ_=>rfl) λ_=>Cq.wp.nr rfl (Cq.wp.nr rfl (Cq.wp.nr rfl (Cq.wp.nr rfl (Cq.wp.nr rfl (Cq.wp.nr rfl rfl)))))))
 have j:(yQ c false false).ω (0,-1):=
  Cq.wp.nr rfl (Cq.wp.nr rfl (Cq.wp.nr rfl (Cq.wp.nr rfl (Cq.wp.nr rfl (Cq.wp.nr rfl (Cq.wp.nr rfl (Cq.wp.nr rfl (Cq.wp.nr rfl (Cq.wp.nr rfl (Cq.wp.nr rfl rfl))))))))))
 have g:(yQ c false true).ω (if c.kind=12 then(0,c.n)else if c.kind=6 then(c.r,c.r)else if c.kind=7 then((c.b.length:Int),(c.b.length:Int))else if c.kind=8 then((c.b.length:Int),(c.b.length:Int))else if c.kind=9 then(0,0)else if c.kind=13 then(c.n,-1)else(0,-1)):=by refine Cq.wp.nr rfl (Cq.wp.nr rfl (Cq.wp.nr rfl (Cq.wp.yes rfl (zz (λ_=>rfl) λ_=>Cq.wp.yes rfl (zz (λ_=>rfl) λ_=>Cq.wp.yes rfl (ZU (λ_=>Cq.wp.yes rfl rfl) λ_=>?_))))));exact zz (λ_=>rfl) λ_=>Cq.wp.yes rfl (zz (λ_=>rfl) λ_=>Cq.wp.yes rfl (ZU (λ_=>rfl) λ_=>rfl))
 have h:(if c.kind=12 then(0,c.n)else if c.kind=6 then(c.r,c.r)else if c.kind=7 then((c.b.length:Int),(c.b.length:Int))else if c.kind=8 then((c.b.length:Int),(c.b.length:Int))else if c.kind=9 then(0,0)else if c.kind=13 then(c.n,-1)else(0,-1))=(if c.kind=6 then(c.r,c.r)else if c.kind=7\/c.kind=8 then((c.b.length:Int),(c.b.length:Int))else if c.kind=9 then(0,0)else if c.kind=13 then(c.n,-1)else if c.kind=12 then(0,c.n)else(0,-1)):=by
  by_cases a:c.kind=12
  .simp[a]
  by_cases h7:c.kind=7
  .simp[h7]
  simp[a,h7]
 rw[h]at g;unfold mo;by_cases f:q.kind=8
 .refine Cq.wp.yes f ?_;rw[ā ŉ,ą (Or.inl f),Ĉ ŉ];exact g
 refine Cq.wp.no f ?_;by_cases d:q.kind=5
 .rw[ą d,ă d,Ĉ ŉ];exact i
 rw[ā d,Ĉ d];by_cases e:q.kind=6
 .rw[ą (Or.inr e),ă e];exact g
 rw[ā ŉ,Ĉ e];exact j
def CZ(a b:Int):Int:=if a<b then b else a
def qU(a b:Int):Int:=if 0<=b then(if a<0 then b else if b<a then b else a)else a
theorem WB{a b:Int}(c:0<=b)(d:a<0):qU a b=b:=by unfold qU;rw[if_pos c,if_pos d]
theorem Ck{a b:Int}(c:0<=b)(d:¬a<0)(h2:b<a):qU a b=b:=by unfold qU;rw[if_pos c,if_neg d,if_pos h2]
theorem WD{a b:Int}(c:0<=b)(d:¬a<0)(h2:¬b<a):qU a b=a:=by unfold qU;rw[if_pos c,if_neg d,if_neg h2]
theorem WG{a b:Int}(c:¬0<=b):qU a b=a:=by unfold qU;rw[if_neg c]
def jG(t:Zb)(c:Zk):Zb:=⟨t.id,t.k,t.q,t.η,CZ t.low (mo t.q c).1,qU t.high (mo t.q c).2,t.done || qN t.k t.q c⟩
theorem Sq(c:Zk)(t:Zb):(Eo c t).ω ⟨t.id,t.k,t.q,t.η,CZ t.low (mo t.q c).1,qU t.high (mo t.q c).2,t.done⟩:=by
 refine⟨_,Zu5 t.q c,?_⟩;by_cases a:0<=(mo t.q c).2
 .by_cases d:t.high<0
  .rw[WB a d];exact Cq.wp.yes a (Cq.wp.yes d rfl)
  by_cases h2:(mo t.q c).2<t.high
  .rw[Ck a d h2];exact Cq.wp.yes a (Cq.wp.no d (Cq.wp.yes h2 rfl))
  rw[WD a d h2];exact Cq.wp.yes a (Cq.wp.no d (Cq.wp.no h2 rfl))
 rw[WG a];exact Cq.wp.no a rfl
theorem Zxa{t:Zb}(d:fb t.q){c:Zk}(a:Ë c):(KO t c).ω (jG t c):=by
 refine⟨_,Zs4 d a,?_⟩;unfold jG;cases qN t.k t.q c with
 |true=>rw[abE];exact Cq.wp.yes rfl (Sq c _)
 |false=>rw[abU];exact Cq.wp.nr rfl (Sq c _)
theorem RJ(b:Int×Int)(t:Zb):(EA b t).ω ⟨t.id,t.k,t.q,t.η,CZ t.low b.1,qU t.high b.2,t.done⟩:=by
 by_cases a:0<=b.2
 .by_cases c:t.high<0
  .rw[WB a c];exact Cq.wp.yes a (Cq.wp.yes c rfl)
  by_cases h2:b.2<t.high
  .rw[Ck a c h2];exact Cq.wp.yes a (Cq.wp.no c (Cq.wp.yes h2 rfl))
  rw[WD a c h2];exact Cq.wp.yes a (Cq.wp.no c (Cq.wp.no h2 rfl))
 rw[WG a];exact Cq.wp.no a rfl
theorem Zrx{t:Zb}(e:fb t.q){c:Zk}(d:Ë c):(Kp t c).ω (jG t c):=by
 refine⟨_,ZtL t.q c,?_⟩;unfold jG;by_cases a:t.done=true
 .refine Cq.wp.yes a ?_;rw[a,ŭ];exact RJ _ _
 refine Cq.wp.no a ⟨_,Zrs e d,?_⟩;rw[show t.done=false by simpa using a,Ł];exact RJ _ _
theorem Bo(l:Ŀ Zk)(t:Zb):(l.foldl jG t).id=t.id/\(l.foldl jG t).k=t.k/\(l.foldl jG t).q=t.q/\(l.foldl jG t).η=t.η:=by
 induction l generalizing t with
 |nil=>exact⟨rfl,rfl,rfl,rfl⟩
 |cons c l e=>
  obtain⟨a,h2,h3,d⟩:=e (jG t c);exact⟨a,h2,h3,d⟩
def ls(id Κ:Int)(t:Zb):Zb:=if t.id=id then⟨t.id,t.k,t.q,if t.η<Κ+1 then Κ+1 else t.η,t.low,t.high,t.done⟩else t
def stepT(k:Zd)(id:Int)(l:Ŀ Zk)(Κ:Int)(t:Zb):Zb:=ls id Κ (if û t.k=û k then l.foldl jG t else t)
def ib(B:Ze)(id:Int)(l:Ŀ Zk)(Κ:Int):Ze×Int:=
 if(fM B.t id).2=false then(⟨[],0⟩,380)
 else if Κ<0\/12<Κ then(⟨[],0⟩,1)
 else if l.all (ã (fM B.t id).1.k)=true then(⟨B.t.map (stepT (fM B.t id).1.k id l Κ),B.next⟩,0)
 else(⟨[],0⟩,1)
end Go.EL

namespace Go.EL
open Go.IntKind (i8 i16 i32 i64 u8 u16 u32 u64)
open Go Go.RowKit
theorem Zs5{l:Ŀ Zb}(a:l.length<=1000):(Z4 l).ω l:=
 ⟨λe=>by subst e;rfl,by rw[ķ];simp only[small];omega,ķ l⟩
theorem SK{l:Ŀ Zb}{id:Int}(h:(fM l id).2=true):(fM l id).1∈l/\(fM l id).1.id=id:=by
 unfold fM at h⊢;cases a:l.find? λt=>decide (t.id=id)with
 |none=>rw[a]at h;cases h
 |some t=>exact⟨aak a,by simpa using aaT a⟩
theorem Vb{α:Type}{E:α}(l:Ŀ Zk)(q:l.length<=1000)(f:Zk->Bool)(X:Ze){step:Int×Ze->Cq ((Int×Ze)⊕(α⊕Ze))}
  (h:∀k (g:k<l.length),(step ((k:Int),X)).wp λo=>o=if f l[k]=true then .inl (i64.wrap ((k:Int)+1),X)else .inr (.inl E))
  (a:(step ((l.length:Int),X)).wp λo=>o=.inr (.inr X)):(Cq.loop step (0,X)).wp λo=>o=if l.all f=true then .inr X else .inl E:=by
 refine Cq.Zn l.length (λk s=>s=((k:Int),X)/\∀i (hi:i<l.length),i<k->f l[i]=true) (λk s g m=>?_) (λs m=>?_) ⟨rfl,λi _ hi=>absurd hi (ĵ _)⟩
 .obtain⟨rfl,d⟩:=m
  refine(step _).mono (λo j=>?_) (h k g)
  subst j
  by_cases c:f l[k]=true
  .rw[ą c]
   refine⟨by rw[χ ŉ],λi hi n=>?_⟩
   by_cases e:i=k
   .subst e;exact c
   exact d i hi ŉ
  rw[ā c]
  show _=_
  rw[ā λe=>c (Ć.1 e _ (Ă g))]
 obtain⟨rfl,d⟩:=m
 refine(step _).mono (λo j=>?_) a
 subst j
 show _=_
 rw[ą (Ć.2 λx p=>by obtain⟨i,hi,rfl⟩:=ż p;exact d i hi hi)]
theorem Zym{l:Ŀ Zk}(g:l.length<=1000)(e:∀c∈l,Ë c){t:Zb}(f:fb t.q):(Qc l (0,t)).ω (l.foldl jG t):=by
 refine Cq.Zn l.length (λk s=>s=((k:Int),(l.take k).foldl jG t)) (λk s a d=>?_) (λs d=>?_) rfl
 .subst d;refine Cq.wp.yes ŉ ⟨_,Λ a,_,Zxa (by rw[(Bo _ t).2.2.1];exact f) (e _ (Ă a)),?_⟩;show _=_;rw[χ ŉ,č a,abj];rfl
 subst d;refine Cq.wp.no ŉ ?_;rw[ĥ];exact rfl
theorem Zwm{l:Ŀ Zk}(j:l.length<=1000)(g:∀c∈l,Ë c){t own:Zb}(i:fb t.q)(a:jx t.k)(h:jx own.k)(b:Bool):(QA l (own,b) (0,t)).ω (if û t.k=û own.k then l.foldl jG t else t):=by
 have d:=Fw a h;by_cases e:û t.k=û own.k
 .rw[ą e];rw[ă e]at d;refine Cq.Zn l.length (λk s=>s=((k:Int),(l.take k).foldl jG t)) (λk s a oH=>?_) (λs oH=>?_) rfl
  .subst oH;refine Cq.wp.yes ŉ ⟨true,by rw[(Bo _ t).2.1];exact d,Cq.wp.yes rfl ⟨_,Λ a,_,Zrx (by rw[(Bo _ t).2.2.1];exact i) (g _ (Ă a)),?_⟩⟩;show _=_;rw[χ ŉ,č a,abj];rfl
  subst oH;refine Cq.wp.no ŉ ?_;rw[ĥ];exact rfl
 rw[ā e];rw[Ĉ e]at d;refine Cq.Zt ?_;by_cases f:(0:Int)<(l.length:Int)
 .exact Cq.wp.yes f ⟨false,d,Cq.wp.nr rfl rfl⟩
 exact Cq.wp.no f rfl
theorem TK{id Κ:Int}(f:0<=Κ/\Κ<=12){T:Ŀ Zb}{k:Nat}(a:k<T.length)(d:T.length<=1000)(n:Int)(t:Zb):(yR id Κ T (k:Int) n t).wp λo=>o=.inl (T.set k (ls id Κ t),((k+1:Nat):Int),n):=by
 unfold ls;have c:i64.wrap (Κ+1)=Κ+1:=wrap64 ŉ;by_cases e:t.id=id
 .rw[ą e];refine Cq.wp.yes e ⟨_,Λ a,?_⟩;show _=_;rw[χ ŉ,c,Ĕ]
 rw[ā e];refine Cq.wp.no e ⟨_,Λ a,?_⟩;show _=_;rw[χ ŉ,Ĕ]
theorem Zwk{id Κ:Int}(f:0<=Κ/\Κ<=12){T:Ŀ Zb}{k:Nat}(d:k<1000)(c:T.length<=1000)(n:Int)(t:Zb):(JS id Κ (k:Int) T n t).wp λo=>o=.inl (((k+1:Nat):Int),T++[ls id Κ t],n):=by
 unfold ls;have a:i64.wrap (Κ+1)=Κ+1:=wrap64 ŉ;have k3:∀u,(EO (k:Int) T n u).wp λo=>o=.inl (((k+1:Nat):Int),T++[u],n):=λu=>by refine⟨by rw[Ā];simp only[small,ė];omega,?_⟩;show _=_;rw[χ ŉ]
 by_cases e:t.id=id
 .rw[ą e];refine Cq.wp.yes e ?_;rw[a];exact k3 _
 rw[ā e];exact Cq.wp.no e (k3 _)
theorem Zz8{f:Zb->Zb}{T:Ŀ Zb}{k:Nat}(a:k<T.length):((T.take k).map f++T.drop k).length=T.length/\((T.take k).map f++T.drop k)[k]?=some T[k]/\((T.take k).map f++T.drop k).set k (f T[k])=(T.take (k+1)).map f++T.drop (k+1):=by
 have c:((T.take k).map f).length=k:=by rw[ć,Č];omega
 refine⟨by rw[Ā,c,ľ];omega,?_,?_⟩
 .rw[ģ ŉ,c,aaY,ŧ];exact Ą a
 rw[List.set_append,ā ŉ,c,aaY,į a,aa8,č a,Ĭ,ď];rfl
section
variable {B:Ze}{id:Int}{l:Ŀ Zk}{Κ:Int}
theorem yj(h:(fM B.t id).2=false):ib B id l Κ=(⟨[],0⟩,380):=by unfold ib;rw[if_pos h]
theorem sH(h:(fM B.t id).2=true)(a:Κ<0\/12<Κ):ib B id l Κ=(⟨[],0⟩,1):=by unfold ib;rw[if_neg (by rw[h];decide),if_pos a]
theorem C1(h:(fM B.t id).2=true)(a:¬(Κ<0\/12<Κ))(h2:l.all (ã (fM B.t id).1.k)=false):ib B id l Κ=(⟨[],0⟩,1):=by unfold ib;rw[if_neg (by rw[h];decide),if_neg a,if_neg (by rw[h2];decide)]
theorem uO(h:(fM B.t id).2=true)(a:¬(Κ<0\/12<Κ))(h2:l.all (ã (fM B.t id).1.k)=true):ib B id l Κ=(⟨B.t.map (stepT (fM B.t id).1.k id l Κ),B.next⟩,0):=by unfold ib;rw[if_neg (by rw[h];decide),if_neg a,if_pos h2]
end
theorem A2{B:Ze}(h:ì B)(F:B.t.length<=1000)(id:Int){l:Ŀ Zk}(y:l.length<=1000)(x:∀c∈l,Ë c)(Κ:Int):(xn B id l Κ).ω (ib B id l Κ):=by
 refine⟨_,(Fz F id).1,?_⟩;cases d:(fM B.t id).2 with
 |false=>rw[yj d];exact Cq.wp.yes (by rw[d];rfl) rfl
 |true=>
  refine Cq.wp.no (by rw[d];decide) ?_;obtain⟨H,G⟩:=SK d;have m:=(h.can _ H).ck.1.ok;by_cases q:Κ<0
  .rw[sH d (Or.inl q)];exact Cq.wp.yes q rfl
  by_cases h2:12<Κ
  .rw[sH d (Or.inr h2)];exact Cq.wp.no q (Cq.wp.yes h2 rfl)
  have j:¬(Κ<0\/12<Κ):=ŉ;have J:=C1 (l:=l) d j;have K:=uO (l:=l) d j;generalize A:fM B.t id=own at *;refine Cq.wp.no q (Cq.wp.no h2 ?_);show(Cq.next _ _).wp _;have key:=Vb (E:=((⟨[],0⟩:Ze),(1:Int))) l y (ã own.1.k) ⟨[],0⟩ (step:=λD=>match D with|(a,i)=>if a<(l.length:Int)then(Cq.Γ l a λL=>Cq.bind (E1 own.1.k L) λu=>if(!u)=true then(Cq.ret (.inr (.inl ((Ze.mk [] 0),1))))else(Cq.ret (.inl (i64.wrap (a+1),i))))else(Cq.ret (.inr (.inr i)))) (λk g=>by
   refine Cq.wp.yes ŉ ⟨_,Λ g,_,Zoh m (x _ (Ă g)),?_⟩;cases ã own.1.k l[k]with
   |false=>exact Cq.wp.yes rfl rfl
   |true=>exact Cq.wp.nr rfl rfl) (Cq.wp.no ŉ rfl)
  refine Cq.fj key ?_;cases hr:l.all (ã own.1.k)with
  |false=>rw[J hr];exact rfl
  |true=>
   rw[K hr];refine⟨_,zn m,_,Zs5 ŉ,?_⟩;show(Cq.next _ _).wp _;refine Cq.Zn B.t.length (λk s=>s=((B.t.take k).map (stepT own.1.k id l Κ)++B.t.drop k,(k:Int),B.next)) (λk s g t=>?_) (λs t=>?_) (by show _=_;simp)
   .subst t;obtain⟨C,I,n⟩:=Zz8 (f:=stepT own.1.k id l Κ) g;have v:=h.can _ (Ă g);refine Cq.wp.yes ŉ ⟨B.t[k],⟨ŉ,by rw[Ĕ];exact I⟩,_,zn v.ck.1.ok,?_⟩;have e:stepT own.1.k id l Κ B.t[k]=ls id Κ (if û B.t[k].k=û own.1.k then l.foldl jG B.t[k]else B.t[k]):=rfl;rw[e]at n;by_cases p:û B.t[k].k=û own.1.k
    .rw[ą p]at n;refine Cq.wp.yes p (Cq.fj (Zym y x v.cq) ?_);refine Cq.mono (yR _ _ _ _ _ _) (λo r=>?_) (TK ŉ (by rw[C];exact g) ŉ B.next _);subst r;show _=_;rw[n]
    rw[ā p]at n;refine Cq.wp.no p ?_;refine Cq.mono (yR _ _ _ _ _ _) (λo r=>?_) (TK ŉ (by rw[C];exact g) ŉ B.next _);subst r;show _=_;rw[n]
   subst t;refine Cq.wp.no ŉ ?_;rw[ĥ,aai,ę];exact rfl
theorem Zvm{B:Ze}(h:ì B)(v:B.t.length<=1000)(id:Int){l:Ŀ Zk}(r:l.length<=1000)(q:∀c∈l,Ë c)(Κ:Int):(K9 B id l Κ).ω (ib B id l Κ):=by
 refine⟨_,(Fz v id).2,?_⟩;cases d:(fM B.t id).2 with
 |false=>rw[yj d];exact Cq.wp.yes (by rw[d];rfl) rfl
 |true=>
  refine Cq.wp.no (by rw[d];decide) ?_;obtain⟨y,x⟩:=SK d;have i:=(h.can _ y).ck.1.ok;by_cases j:Κ<0
  .rw[sH d (Or.inl j)];exact Cq.wp.yes j rfl
  by_cases h2:12<Κ
  .rw[sH d (Or.inr h2)];exact Cq.wp.no j (Cq.wp.yes h2 rfl)
  have g:¬(Κ<0\/12<Κ):=ŉ;have C:=C1 (l:=l) d g;have D:=uO (l:=l) d g;generalize t:fM B.t id=own at *;refine Cq.wp.no j (Cq.wp.no h2 ?_);show(Cq.next _ _).wp _;have key:=Vb (E:=((⟨[],0⟩:Ze),(1:Int))) l r (ã own.1.k) ⟨[],0⟩ (step:=λu=>match u with|(a,f)=>if a<(l.length:Int)then(Cq.Γ l a λF=>Cq.bind (FP own.1.k F) λn=>if(!n)=true then(Cq.ret (.inr (.inl ((Ze.mk [] 0),1))))else(Cq.ret (.inl (i64.wrap (a+1),f))))else(Cq.ret (.inr (.inr f)))) (λk e=>by
   refine Cq.wp.yes ŉ ⟨_,Λ e,_,Zvo i (q _ (Ă e)),?_⟩;cases ã own.1.k l[k]with
   |false=>exact Cq.wp.yes rfl rfl
   |true=>exact Cq.wp.nr rfl rfl) (Cq.wp.no ŉ rfl)
  refine Cq.fj key ?_;cases hr:l.all (ã own.1.k)with
  |false=>rw[C hr];exact rfl
  |true=>
   rw[D hr];show(Cq.next _ _).wp _;refine Cq.Zn B.t.length (λk s=>s=((k:Int),(B.t.take k).map (stepT own.1.k id l Κ),B.next)) (λk s e m=>?_) (λs m=>?_) (by show _=_;simp)
   .subst m;have p:=h.can _ (Ă e);refine Cq.wp.yes ŉ ⟨_,Λ e,Cq.fj (Zwm (own:=own.1) r q p.cq p.ck.1.ok.mJ i.mJ own.2) ?_⟩;refine Cq.mono (JS _ _ _ _ _ _) (λo A=>?_) (Zwk ŉ ŉ (by rw[ć,Č];omega) B.next _);subst A;show _=_;rw[č e,Ĭ];rfl
   subst m;refine Cq.wp.no ŉ ?_;rw[ĥ];exact rfl
end Go.EL

namespace Go.EL
open Go.IntKind (i8 i16 i32 i64 u8 u16 u32 u64)
open Go Go.RowKit
theorem Zwe{l:Ŀ Zw}(h:∀y∈l,jf y):∃m:Ŀ Ó,(LQ l 2 2 3 6).ω m/\m.length<=6/\∀p∈m,ψ p:=by
 refine⟨(l.take 6).map λy=>iG y 2 2 3,?_,by rw[ć,Č];omega,λp hp=>?_⟩
 .have a:(RB ((l.take (min l.length 6)).map λy=>iG y 2 2 3)).ω ((l.take 6).map λy=>iG y 2 2 3):=by
   have e:l.take (min l.length 6)=l.take 6:=by
    by_cases f:l.length<=6
    .rw[Ż f,ě (Ċ _),ě f]
    rw[Nat.min_eq_right ŉ]
   rw[e];exact rfl
  refine Cq.Zn (min l.length 6) (λk s=>s=((l.take k).map (λy=>iG y 2 2 3),(k:Int))) (λk s j g=>?_) (λs g=>?_) rfl
  .subst g;have c:k<l.length:=ŉ;refine Cq.wp.yes ŉ (Cq.wp.yes ŉ ⟨_,Λ c,_,LN (h _ (Ă c)) (n:=2) ĳ ĳ ĳ (k:=3) ĳ,?_,?_⟩)
   .simp only[Ā,ć,Č,ė,small];omega
   show _=_;rw[χ ŉ,č c,Ĭ];rfl
  subst g;by_cases f:l.length<=6
  .exact Cq.wp.no ŉ a
  exact Cq.wp.yes ŉ (Cq.wp.no ŉ a)
 obtain⟨y,i,rfl⟩:=ğ.1 hp;exact(Mc (h y (œ i)) (n:=2) ĳ (d:=2) ĳ ĳ (k:=3) ĳ).1
def iv(l:Ŀ Ó)(k:Nat):Ó:=if h:0<l.length then l[k % l.length]'(x9 _ h)else[]
theorem UA{l:Ŀ Ó}(h:∀p∈l,ψ p)(k:Nat):ψ (iv l k):=by
 unfold iv;split
 .exact h _ (Ă _)
 exact ψ.of ĳ
theorem Ug(a b:Nat):Int.tmod (a:Int) (b:Int)=((a % b:Nat):Int):=by rw[ŏ ŉ];rfl
theorem UB{l:Ŀ Ó}(p:l.length<=6)(k n:Nat)(m:k<=2)(q:n<=3):(xE l (k:Int) (n:Int)).ω ((List.range n).map λi=>iv l (k+i)):=by
 show(Cq.next _ _).wp _;refine Cq.Zn n (λj s=>s=((List.range j).map (λi=>iv l (k+i)),(j:Int))) (λj s h d=>?_) (λs d=>?_) rfl
 .subst d;have a:∀x:Ó,((List.range j).map (λi=>iv l (k+i))++[x]).length<=small:=λx=>by simp only[Ā,ć,Ź,ė,small];omega
  have next:∀x:Ó,x=iv l (k+j)->((List.range j).map (λi=>iv l (k+i))++[x],i64.wrap ((j:Int)+1))=((List.range (j+1)).map (λi=>iv l (k+i)),((j+1:Nat):Int)):=λx f=>by rw[χ ŉ,aan,Ĭ,f];rfl
  refine Cq.wp.yes ŉ ?_;by_cases g:l.length=0
  .refine Cq.wp.yes ŉ ⟨a _,next _ ?_⟩;unfold iv;rw[dif_neg ŉ]
  have c:(k+j) % l.length<l.length:=x9 _ ŉ;have e:Int.tmod (i64.wrap ((k:Int)+(j:Int))) (l.length:Int)=(((k+j) % l.length:Nat):Int):=by rw[wrap64 ŉ,<-Ug];congr 1
  refine Cq.wp.no ŉ ⟨ŉ,_,by rw[e];exact Λ c,a _,next _ ?_⟩;unfold iv;rw[ŷ ŉ]
 subst d;exact Cq.wp.no ŉ rfl
theorem ZyC{l:Ŀ Ó}(h:∀p∈l,ψ p)(k n:Nat)(a:n<=3):rO ((List.range n).map λi=>iv l (k+i)):=
 ⟨by rw[ć,Ź];exact a,λp hp=>by obtain⟨i,_,rfl⟩:=ğ.1 hp;exact UA h _⟩
def eU(v:Ŀ Int)(k:Nat):Int:=(v[k % v.length]?).getD 0
theorem zf{v:Ŀ Int}(h:∀x∈v,gQ x)(k:Nat):gQ (eU v k):=by
 unfold eU;cases e:v[k % v.length]? with
 |none=>show gQ 0;decide
 |some x=>exact h x (Ň e)
theorem vA{v:Ŀ Int}(h:∀x∈v,gQ x)(k:Nat):(tY v (k:Int)).ω (eU v k):=by
 by_cases c:v.length=0
 .refine Cq.wp.yes ŉ ?_;show _=_;unfold eU;rw[ń ŉ];rfl
 have a:k % v.length<v.length:=x9 _ ŉ;refine Cq.wp.no ŉ ⟨ŉ,_,by rw[Ug];exact Λ a,?_⟩;show _=_;have:=h _ (Ă a);unfold eU;rw[Ą a,wrap64 ŉ];rfl
def n7(y:Int):Int:=i64.wrap (BitVec.ofInt i64.bits y &&& BitVec.ofInt i64.bits 7).toNat
def n3(y:Int):Int:=i64.wrap (BitVec.ofInt i64.bits (n7 y) &&& BitVec.ofInt i64.bits 3).toNat
def n15(y:Int):Int:=i64.wrap (BitVec.ofInt i64.bits y &&& BitVec.ofInt i64.bits 15).toNat
def wz(y:Int):Int:=i64.wrap ((Int.tmod (i64.wrap (BitVec.ofInt i64.bits y &&& BitVec.ofInt i64.bits 127).toNat) 3)-1)
structure rS (y:Int):Prop where
 h7:0<=n7 y/\n7 y<=7
 h3:0<=n3 y/\n3 y<=3
 oY:0<=n15 y/\n15 y<=15
 sg:-1<=wz y/\wz y<=1
 w8:i8.wrap (n7 y)=n7 y/\i8.wrap y=y
 dm:i64.wrap (n3 y-1)=n3 y-1
 pt:0<=i64.wrap (Int.tdiv (n7 y) 2)/\i64.wrap (Int.tdiv (n7 y) 2)<=i64.wrap (n7 y-i64.wrap (Int.tdiv (n7 y) 3))/\i64.wrap (n7 y-i64.wrap (Int.tdiv (n7 y) 3))<=n7 y
def s7(y:Int):Bool:=decide (0<=n7 y/\n7 y<=7)&&decide (0<=n3 y/\n3 y<=3)&&decide (0<=n15 y/\n15 y<=15)&&decide (-1<=wz y/\wz y<=1)&&decide (i8.wrap (n7 y)=n7 y/\i8.wrap y=y)&&decide (i64.wrap (n3 y-1)=n3 y-1)&&decide (0<=i64.wrap (Int.tdiv (n7 y) 2)/\i64.wrap (Int.tdiv (n7 y) 2)<=i64.wrap (n7 y-i64.wrap (Int.tdiv (n7 y) 3))/\i64.wrap (n7 y-i64.wrap (Int.tdiv (n7 y) 3))<=n7 y)
theorem ZxB:á (-128) 127 s7=true:=by decide +kernel
theorem AZ{y:Int}(h:gQ y):rS y:=by have:=Zs ZxB h.1 h.2;unfold s7 at this;simp only[ĉ,Ě]at this;obtain⟨⟨⟨⟨⟨⟨a,b⟩,c⟩,d⟩,e⟩,f⟩,g⟩:=this;exact⟨a,b,c,d,e,f,g⟩
def mq(v:Ŀ Int)(k:Nat):Ŀ Zl:=ni (eU v k) (eU v (k+1)) (n7 (eU v k))
theorem LL{v:Ŀ Int}(h:∀x∈v,gQ x)(k:Nat)(p:k<=3):(Mt v (k:Int)).ω (mq v k)/\nW (mq v k):=by
 have p0:=zf h k;have p1:=zf h (k+1);have a:=AZ p0;have j:=AZ p1;refine⟨?_,_,_,_,p0,p1,a.h7,rfl⟩;have l:nS 0=(0,1):=by decide +kernel
 have m:o9 0 0=(0,1):=by decide +kernel
 have w1:(ZY 0).ω (Μ (nS 0)):=by rw[l];exact(xS (n:=0) ĳ).1
 have w2:(ZY 0).ω (Μ (o9 0 0)):=by rw[m];exact(xS (n:=0) ĳ).1
 have first:(R5 (0,List.replicate 8 (Zl.mk (Zf.mk (Zg.mk false []) (Zg.mk false [])) (Zf.mk (Zg.mk false []) (Zg.mk false []))))).ω (List.replicate 8 (mg 0 0)):=by
  iterate 8
   refine Cq.Zt (Cq.wp.yes ĳ ⟨_,w1,_,w2,_,⟨ĳ,rfl⟩,?_⟩)
   show(Cq.loop _ _).wp _
  exact Cq.Zt (Cq.wp.no ĳ rfl)
 refine Cq.fj first ?_
 show(Cq.next _ _).wp _;have d:=Zw0 a.h7;have e:i64.wrap ((k:Int)+0)=(k:Int):=by rw[wrap64 ŉ];omega
 have f:∀i:Nat,i<=1->i64.wrap ((k:Int)+(i:Int))=((k+i:Nat):Int):=λi hi=>by rw[wrap64 ŉ];rfl
 have c:∀y,rS y->i8.wrap (i64.wrap (BitVec.ofInt i64.bits y &&& BitVec.ofInt i64.bits 7).toNat)=n7 y:=λy s=>s.w8.1;have g:(R4 v (k:Int) (0,List.replicate 8 (mg 0 0))).ω (mq v k):=by refine Cq.Zt (Cq.wp.yes ĳ ⟨_,by rw[e];exact vA h k,_,by rw[a.w8.2];exact UP p0,_,vA h k,_,by rw[c _ a];exact d,_,UM p0 a.h7,_,⟨ĳ,rfl⟩,?_⟩);show(Cq.loop _ _).wp _;refine Cq.Zt (Cq.wp.yes ĳ ⟨_,by have:=f 1 ĳ;rw[show((1:Nat):Int)=i64.wrap (0+1)from rfl]at this;rw[this];exact vA h (k+1),_,by rw[j.w8.2];exact UP p1,_,vA h k,_,by rw[c _ a];exact d,_,UM p1 a.h7,_,⟨ĳ,rfl⟩,?_⟩);show(Cq.loop _ _).wp _;exact Cq.Zt (Cq.wp.no ĳ rfl)
 exact g
end Go.EL

namespace Go.EL
open Go.IntKind (i8 i16 i32 i64 u8 u16 u32 u64)
open Go Go.RowKit
structure jQ (x:ZN):Prop where
 kind:0<=x.kind/\x.kind<=255
 l:∀y∈x.l,jf y
 v:∀z∈x.v,gQ z
theorem RR{v:Ŀ Int}(h:∀z∈v,gQ z){N:Nat}(a:N<=3):kq ((List.range N).map (mq v)):=
 ⟨by rw[ć,Ź];exact a,λb c=>by
  obtain⟨i,hi,rfl⟩:=ğ.1 c;exact(LL h i (by have:=Ľ.1 hi;omega)).2⟩
theorem Zv8{v:Ŀ Int}(h:∀z∈v,gQ z){N:Nat}(a:N<=3):lC ((List.range N).map λi=>wz (eU v i)):=
 ⟨by rw[ć,Ź];exact a,λb c=>by
  obtain⟨i,_,rfl⟩:=ğ.1 c;exact(AZ (zf h i)).sg⟩
theorem Zxd{x:ZN}(c:jQ x)(p:Ó){y:Int}{N:Nat}(f:n3 y=(N:Int))(d:N<=3):(Jz x p y (0,7,[],0,0,0,[],[],[],[])).ω (7,[],0,0,0,[],[],[],(List.range N).map (mq x.v)):=by
 refine Cq.Zn N (λk s=>s=((k:Int),7,[],0,0,0,[],[],[],(List.range k).map (mq x.v))) (λk s e a=>?_) (λs a=>?_) rfl
 .subst a;refine Cq.wp.yes (show(k:Int)<n3 y by omega) ⟨_,(LL c.v k ŉ).1,?_,Cq.wp.no ĳ ?_⟩
  .simp only[Ā,ć,Ź,ė,small];omega
  show _=_;rw[χ ŉ,aan,Ĭ];rfl
 subst a;exact Cq.wp.no (show ¬(N:Int)<n3 y by omega) rfl
theorem Zxe{x:ZN}(c:jQ x)(p:Ó){y:Int}{N:Nat}(f:n3 y=(N:Int))(d:N<=3):(Jz x p y (0,8,[],0,0,0,[],[],[],[])).ω (8,if N=0 then[]else p,0,0,0,[],[],(List.range N).map (λi=>wz (eU x.v i)),(List.range N).map (mq x.v)):=by
 refine Cq.Zn N (λk s=>s=((k:Int),8,if k=0 then[]else p,0,0,0,[],[],(List.range k).map (λi=>wz (eU x.v i)),(List.range k).map (mq x.v))) (λk s e a=>?_) (λs a=>?_) rfl
 .subst a;refine Cq.wp.yes (show(k:Int)<n3 y by omega) ⟨_,(LL c.v k ŉ).1,?_,Cq.wp.yes rfl ⟨_,vA c.v k,?_,?_⟩⟩
  .simp only[Ā,ć,Ź,ė,small];omega
  .simp only[Ā,ć,Ź,ė,small];omega
  show _=_;rw[χ ŉ,aan,Ĭ,Ĭ,ā (Nat.succ_ne_zero k)];rfl
 subst a;exact Cq.wp.no (show ¬(N:Int)<n3 y by omega) rfl
theorem Zpv{x:ZN}(d:jQ x):∃c,(Ei x).ω c/\Ë c:=by
 obtain⟨m,B,t,v⟩:=Zwe d.l;have s:=zf d.v 1;have f:=AZ s;have k:(tY x.v 1).ω (eU x.v 1):=vA d.v 1;generalize eU x.v 1=y at s f k;have j:(xE m 2 1).ω [iv m 2]:=UB t 2 1 ĳ ĳ;have hp:=UA v 2;generalize iv m 2=p at j hp;obtain⟨N,n⟩:∃N:Nat,n3 y=(N:Int):=⟨(n3 y).toNat,by have:=f.h3;omega⟩;have a:N<=3:=by have:=f.h3;omega
 have g:(xE m 1 (n3 y)).ω ((List.range N).map λi=>iv m (1+i)):=by rw[n];exact UB t 1 N ĳ a
 have l:=ZyC v 1 N a;have E:1<=i64.wrap (1+(i64.wrap (Int.tmod x.kind 13)))/\i64.wrap (1+(i64.wrap (Int.tmod x.kind 13)))<=13:=by have:=d.kind;have e:Int.tmod x.kind 13=x.kind % 13:=ŏ this.1;rw[e,wrap64 (x:=x.kind % 13) ŉ,wrap64 ŉ];omega
 have start:∀c,(if(i64.wrap (1+(i64.wrap (Int.tmod x.kind 13))))=1 then(xg x m p y (decide ((i64.wrap (1+(i64.wrap (Int.tmod x.kind 13))))=1)))else(if(i64.wrap (1+(i64.wrap (Int.tmod x.kind 13))))=2 then(xg x m p y (decide ((i64.wrap (1+(i64.wrap (Int.tmod x.kind 13))))=2)))else(xg x m p y (decide ((i64.wrap (1+(i64.wrap (Int.tmod x.kind 13))))=10))))).ω c->(Ei x).ω c:=
  λc h=>⟨m,B,_,j,p,⟨ĳ,rfl⟩,y,k,h⟩
 rcases (by omega:i64.wrap (1+(i64.wrap (Int.tmod x.kind 13)))=1\/i64.wrap (1+(i64.wrap (Int.tmod x.kind 13)))=2\/i64.wrap (1+(i64.wrap (Int.tmod x.kind 13)))=3\/i64.wrap (1+(i64.wrap (Int.tmod x.kind 13)))=4\/i64.wrap (1+(i64.wrap (Int.tmod x.kind 13)))=5\/i64.wrap (1+(i64.wrap (Int.tmod x.kind 13)))=6\/i64.wrap (1+(i64.wrap (Int.tmod x.kind 13)))=7\/i64.wrap (1+(i64.wrap (Int.tmod x.kind 13)))=8\/i64.wrap (1+(i64.wrap (Int.tmod x.kind 13)))=9\/i64.wrap (1+(i64.wrap (Int.tmod x.kind 13)))=10\/i64.wrap (1+(i64.wrap (Int.tmod x.kind 13)))=11\/i64.wrap (1+(i64.wrap (Int.tmod x.kind 13)))=12\/i64.wrap (1+(i64.wrap (Int.tmod x.kind 13)))=13)with e|e|e|e|e|e|e|e|e|e|e|e|e
 .exact⟨⟨1,p,0,0,0,[],[],[],[]⟩,start _ (Cq.wp.yes e (Cq.wp.yes (ă e) (by show _=_;rw[e]))),.hU 1 p ĳ hp⟩
 .exact⟨⟨2,p,0,0,0,[],[],[],[]⟩,start _ (Cq.wp.no (by rw[e];decide) (Cq.wp.yes e (Cq.wp.yes (ă e) (by show _=_;rw[e])))),.hU 2 p ĳ hp⟩
 .exact⟨⟨3,[],0,0,0,[],[],[],[]⟩,start _ (Cq.wp.no (by rw[e];decide) (Cq.wp.no (by rw[e];decide) (Cq.wp.no (by rw[e];decide) (Cq.wp.no (by rw[e];decide) (Cq.wp.no (by rw[e];decide) (Cq.wp.no (by rw[e];decide) (Cq.wp.no (by rw[e];decide) (Cq.wp.no (by rw[e];decide) (Cq.wp.no (by rw[e];decide) (Cq.wp.no (by rw[e];decide) (Cq.wp.no (by rw[e];decide) ((by show _=_;rw[e]))))))))))))),.nil 3 ĳ⟩
 .have h2:=zf d.v 2;have C:(xD (u8.wrap (eU x.v 2))).ω (l4 (u8.wrap (eU x.v 2)).toNat):=by
   obtain⟨u,r⟩:∃u:Nat,u8.wrap (eU x.v 2)=(u:Int):=⟨((eU x.v 2) % 256).toNat,by show(eU x.v 2) % 256=_;omega⟩;have D:(u:Int)<=255:=by rw[<-r];show(eU x.v 2) % 256<=255;omega
   rw[r];exact TG ŉ
  exact⟨⟨4,[],0,0,0,_,_,[],[]⟩,start _ (Cq.wp.no (by rw[e];decide) (Cq.wp.no (by rw[e];decide) (Cq.wp.no (by rw[e];decide) (Cq.wp.yes e ⟨_,vA d.v 2,_,C,_,g,(by show _=_;rw[e])⟩)))),.Hd _ _ Uc l⟩
 .have A:=(AZ (zf d.v 3)).oY;exact⟨⟨5,[],n15 (eU x.v 3),n3 y-1,0,[],[],[],[]⟩,start _ (Cq.wp.no (by rw[e];decide) (Cq.wp.no (by rw[e];decide) (Cq.wp.no (by rw[e];decide) (Cq.wp.no (by rw[e];decide) (Cq.wp.yes e ⟨_,vA d.v 3,by show Zk.mk _ _ _ (i64.wrap (n3 y-1)) _ _ _ _ _=_;rw[e,f.dm];rfl⟩))))),.B1 _ _ A (by have:=f.h3;omega)⟩
 .exact⟨⟨6,[],n7 y,i64.wrap (n7 y-i64.wrap (Int.tdiv (n7 y) 3)),i64.wrap (Int.tdiv (n7 y) 2),[],[],[],[]⟩,start _ (Cq.wp.no (by rw[e];decide) (Cq.wp.no (by rw[e];decide) (Cq.wp.no (by rw[e];decide) (Cq.wp.no (by rw[e];decide) (Cq.wp.no (by rw[e];decide) (Cq.wp.yes e (by show _=_;rw[e];rfl))))))),.HY _ _ _ ⟨f.pt.1,f.pt.2.1,f.pt.2.2,f.h7.2⟩⟩
 .have h7:=Zxd d p n a;rw[<-e]at h7;exact⟨⟨7,[],0,0,0,[],[],[],(List.range N).map (mq x.v)⟩,start _ (Cq.wp.no (by rw[e];decide) (Cq.wp.no (by rw[e];decide) (Cq.wp.no (by rw[e];decide) (Cq.wp.no (by rw[e];decide) (Cq.wp.no (by rw[e];decide) (Cq.wp.no (by rw[e];decide) (Cq.wp.yes e (Cq.wp.yes (ă e) (Cq.fj h7 (Cq.wp.no (by rw[e];decide) (by show _=_;rw[e]))))))))))),.box _ (RR d.v a)⟩
 .have q:=Zxe d p n a;rw[<-e]at q;exact⟨⟨8,p,0,0,0,[],[],(List.range N).map (λi=>wz (eU x.v i)),(List.range N).map (mq x.v)⟩,start _ (Cq.wp.no (by rw[e];decide) (Cq.wp.no (by rw[e];decide) (Cq.wp.no (by rw[e];decide) (Cq.wp.no (by rw[e];decide) (Cq.wp.no (by rw[e];decide) (Cq.wp.no (by rw[e];decide) (Cq.wp.no (by rw[e];decide) (Cq.wp.yes (ă e) (Cq.fj q (Cq.wp.yes e (by show _=_;rw[e]))))))))))),.sig _ _ _ hp (Zv8 d.v a) (by rw[ć,ć]) (RR d.v a)⟩
 .exact⟨⟨9,[],0,0,0,[],[],[],[]⟩,start _ (Cq.wp.no (by rw[e];decide) (Cq.wp.no (by rw[e];decide) (Cq.wp.no (by rw[e];decide) (Cq.wp.no (by rw[e];decide) (Cq.wp.no (by rw[e];decide) (Cq.wp.no (by rw[e];decide) (Cq.wp.no (by rw[e];decide) (Cq.wp.no (by rw[e];decide) (Cq.wp.no (by rw[e];decide) (Cq.wp.no (by rw[e];decide) (Cq.wp.no (by rw[e];decide) ((by show _=_;rw[e]))))))))))))),.nil 9 ĳ⟩
 .exact⟨⟨10,p,0,0,0,[],[],[],[]⟩,start _ (Cq.wp.no (by rw[e];decide) (Cq.wp.no (by rw[e];decide) (Cq.wp.yes (ă e) (by show _=_;rw[e])))),.hU 10 p ĳ hp⟩
 .exact⟨⟨11,[],0,0,0,[],_,[],[]⟩,start _ (Cq.wp.no (by rw[e];decide) (Cq.wp.no (by rw[e];decide) (Cq.wp.no (by rw[e];decide) (Cq.wp.no (by rw[e];decide) (Cq.wp.no (by rw[e];decide) (Cq.wp.no (by rw[e];decide) (Cq.wp.no (by rw[e];decide) (Cq.wp.no (by rw[e];decide) (Cq.wp.yes e ⟨_,g,(by show _=_;rw[e])⟩))))))))),.u4 _ l⟩
 .exact⟨⟨12,[],n7 y,0,0,[],[],[],[]⟩,start _ (Cq.wp.no (by rw[e];decide) (Cq.wp.no (by rw[e];decide) (Cq.wp.no (by rw[e];decide) (Cq.wp.no (by rw[e];decide) (Cq.wp.no (by rw[e];decide) (Cq.wp.no (by rw[e];decide) (Cq.wp.no (by rw[e];decide) (Cq.wp.no (by rw[e];decide) (Cq.wp.no (by rw[e];decide) (Cq.wp.yes e (Cq.wp.yes e (by show _=_;rw[e];rfl)))))))))))),.zL 12 _ ĳ f.h7⟩
 exact⟨⟨13,[],n7 y,0,0,[],[],[],[]⟩,start _ (Cq.wp.no (by rw[e];decide) (Cq.wp.no (by rw[e];decide) (Cq.wp.no (by rw[e];decide) (Cq.wp.no (by rw[e];decide) (Cq.wp.no (by rw[e];decide) (Cq.wp.no (by rw[e];decide) (Cq.wp.no (by rw[e];decide) (Cq.wp.no (by rw[e];decide) (Cq.wp.no (by rw[e];decide) (Cq.wp.no (by rw[e];decide) (Cq.wp.yes e (by show _=_;rw[e];rfl)))))))))))),.zL 13 _ ĳ f.h7⟩
theorem Zu6{x:Zv}(s:∀y∈x.l,jQ y):∃l,(AW x).ω l/\l.length<=4/\∀c∈l,Ë c:=by
 have key:∀(m i:Nat),m+i=min x.l.length 4->∀l:Ŀ Zk,l.length=i->(∀c∈l,Ë c)->∃r,(Qr x (l,(i:Int))).ω r/\r.length<=4/\∀c∈r,Ë c:=by
  intro m;induction m with
  |zero=>
   intro i hi l p h2;refine⟨l,Cq.Zt ?_,ŉ,h2⟩;by_cases h:i<x.l.length
   .exact Cq.wp.yes ŉ (Cq.wp.no ŉ rfl)
   exact Cq.wp.no ŉ rfl
  |succ m t=>
   intro i hi l p h2;have e:i<x.l.length:=ŉ;obtain⟨c,k,n⟩:=Zpv (s _ (Ă e));obtain⟨r,f,g,j⟩:=t (i+1) ŉ (l++[c]) (by rw[Ā];simp;omega) (λd a=>by
    rcases Ħ.1 a with a|a
    .exact h2 d a
    rw[đ.1 a];exact n)
   refine⟨r,Cq.Zt (Cq.wp.yes ŉ (Cq.wp.yes ŉ ⟨_,Λ e,c,k,?_,?_⟩)),g,j⟩
   .simp only[Ā,ė,small];omega
   show(Cq.loop _ _).wp _;rw[χ ŉ];exact f
 obtain⟨r,f,g,j⟩:=key (min x.l.length 4) 0 ŉ [] rfl (λc q=>absurd q ĝ);exact⟨r,Cq.fj f rfl,g,j⟩
end Go.EL

namespace Go.EL
open Go.IntKind (i8 i16 i32 i64 u8 u16 u32 u64)
open Go Go.RowKit
theorem ì.map{B:Ze}(h:ì B){f:Zb->Zb}(hi:∀t,(f t).id=t.id)(a:∀t,(f t).k=t.k)(c:∀t,(f t).q=t.q)(l:∀t∈B.t,(0<=(f t).η/\(f t).η<=13)/\0<=(f t).low/\-1<=(f t).high):ì ⟨B.t.map f,B.next⟩ where
 can t g:=by obtain⟨u,k,rfl⟩:=ğ.1 g;rw[a,c];exact h.can u k
 ids i kB:=by
  have h2:i<B.t.length:=by simpa using kB
  show(B.t.map f)[i].id=_;rw[Ū,hi];exact h.ids i h2
 next:=by show B.next=((B.t.map f).length:Int)+1;rw[ć];exact h.next
 Ú:=by rw[ei];refine h.Ú.imp λ{s t} e=>?_;show gM (f s).k (f s).q≠gM (f t).k (f t).q;rw[a,c,a,c];exact e
 lz i kB x d:=by
  have h2:i<B.t.length:=by simpa using kB
  have d:x∈ë ((B.t.map f)[i]'(by simpa using h2)).q.kind:=d;rw[Ū,c]at d;obtain⟨j,j2,j3,j4⟩:=h.lz i h2 x d;refine⟨j,by show j<(B.t.map f).length;rw[ć];exact j2,j3,?_⟩;show gM ((B.t.map f)[j]'(by simpa using j2)).k ((B.t.map f)[j]'(by simpa using j2)).q=gM ((B.t.map f)[i]'(by simpa using h2)).k x;rw[Ū,Ū,a,c,a];exact j4
 num t g:=by obtain⟨u,k,rfl⟩:=ğ.1 g;exact l u k
theorem Zz6(l:Ŀ Zk){t:Zb}(h:0<=t.low/\-1<=t.high):0<=(l.foldl jG t).low/\-1<=(l.foldl jG t).high:=by
 induction l generalizing t with
 |nil=>exact h
 |cons c l a=>
  refine a ⟨?_,?_⟩
  .show 0<=CZ _ _;unfold CZ;split<;>omega
  show -1<=qU _ _;unfold qU;repeat' split
  all_goals omega
theorem Ls(k:Zd)(id:Int)(l:Ŀ Zk)(Κ:Int)(t:Zb):(stepT k id l Κ t).id=t.id/\(stepT k id l Κ t).k=t.k/\(stepT k id l Κ t).q=t.q:=by
 obtain⟨a,h2,h3,_⟩:=Bo l t;unfold stepT ls;by_cases e:û t.k=û k
 .rw[ą e];split
  .exact⟨a,h2,h3⟩
  exact⟨a,h2,h3⟩
 rw[ā e];split<;>exact⟨rfl,rfl,rfl⟩
theorem Zy1{k:Zd}{id:Int}{l:Ŀ Zk}{Κ:Int}(c:0<=Κ/\Κ<=12){t:Zb}(h:(0<=t.η/\t.η<=13)/\0<=t.low/\-1<=t.high):(0<=(stepT k id l Κ t).η/\(stepT k id l Κ t).η<=13)/\0<=(stepT k id l Κ t).low/\-1<=(stepT k id l Κ t).high:=by
 have key:∀u:Zb,(0<=u.η/\u.η<=13)/\0<=u.low/\-1<=u.high->(0<=(ls id Κ u).η/\(ls id Κ u).η<=13)/\0<=(ls id Κ u).low/\-1<=(ls id Κ u).high:=λu a=>by
  unfold ls;split
  .refine⟨?_,a.2⟩;show 0<=(if u.η<Κ+1 then Κ+1 else u.η)/\(if u.η<Κ+1 then Κ+1 else u.η)<=13;split<;>omega
  exact a
 unfold stepT;refine key _ ?_;split
 .rw[(Bo l t).2.2.2];exact⟨h.1,Zz6 l h.2⟩
 exact h
theorem Zxf{B:Ze}(h:ì B){id:Int}{l:Ŀ Zk}{Κ:Int}(a:(ib B id l Κ).2=0):ì (ib B id l Κ).1/\(ib B id l Κ).1.t.length=B.t.length:=by
 unfold ib at a⊢;split at a
 .cases a
 split at a
 .cases a
 split at a
 .rw[ā ‹_›,ā ‹_›,ą ‹_›];exact⟨h.map (λt=>(Ls _ _ _ _ t).1) (λt=>(Ls _ _ _ _ t).2.1) (λt=>(Ls _ _ _ _ t).2.2) λt c=>Zy1 ŉ (h.num t c),ć _⟩
 cases a
structure kf (x:Zv):Prop where
 fY:0<=x.fY/\x.fY<=255
 c:iq x.c
 kind:0<=x.kind/\x.kind<=255
 p:jf x.p
 o:0<=x.o/\x.o<=255
 l:∀y∈x.l,jQ y
structure rP (x:Zv) (k:Zd) (q:Zc) (l:Ŀ Zk):Prop where
 core:(Bn x).ω k
 asks:(Bm x k).ω q
 nk:(AW x).ω l
 k:Ñ k
 q:fb q
 len:l.length<=4
 l:∀c∈l,Ë c
theorem Zx9{x:Zv}(c:kf x){k:Zd}(h:Ñ k):∃q,(Bm x k).ω q/\fb q:=by
 have s:=h.ok.n;have l:=h.n3;obtain⟨n,j⟩:∃n:Nat,k.n=(n:Int):=⟨k.n.toNat,ŉ⟩;have i:(if 3<k.n then 3 else k.n)=(n:Int):=by rw[ā ŉ,j]
 have a:∀p:Ó,ψ p->∃q,(EY x ⟨i64.wrap (Int.tmod x.kind 12),p,[]⟩).ω q/\fb q:=λp hp=>by
  by_cases e:i64.wrap (Int.tmod x.kind 12)=3
  .obtain⟨u,r⟩:∃u:Nat,x.o=(u:Int):=⟨x.o.toNat,by have:=c.o;omega⟩;have m:(xD x.o).ω (l4 u):=by rw[r];exact TG (by have:=c.o;omega)
   exact⟨⟨_,p,l4 u⟩,Cq.wp.yes e ⟨_,m,rfl⟩,⟨hp,.inl Uc⟩⟩
  exact⟨_,Cq.wp.no e rfl,⟨hp,(fb.nil 0).o⟩⟩
 cases g:decide (i64.wrap (Int.tmod x.kind 12)=1\/i64.wrap (Int.tmod x.kind 12)=7\/i64.wrap (Int.tmod x.kind 12)=9)with
 |true=>
  obtain⟨q,f,h2⟩:=a _ (Mc c.p (n:=n) ŉ (d:=2) ĳ ĳ (k:=3) ĳ).1;exact⟨q,⟨true,by rw[<-g];exact LI _,Cq.wp.yes rfl ⟨_,by rw[i];exact LN c.p (n:=n) ŉ ĳ ĳ (k:=3) ĳ,f⟩⟩,h2⟩
 |false=>
  obtain⟨q,f,h2⟩:=a [] (ψ.of ĳ);exact⟨q,⟨false,by rw[<-g];exact LI _,Cq.wp.nr rfl f⟩,h2⟩
theorem ZvB{x:Zv}(c:kf x):∃k,(Bn x).ω k/\Ñ k:=by obtain⟨a,f⟩:=ZvN c.c;obtain⟨e,d⟩:=Zyg a ŉ;refine⟨_,⟨_,Zu8 c.c,_,Zvl a,rfl⟩,d,?_⟩;rw[e];show pC _<=3;have g:(iX x.c).vars.length=ju x.c:=FE x.c;have:=BC x.c;unfold pC;split<;>omega
theorem ZyD{x:Zv}(a:kf x):∃k q l,rP x k q l:=by obtain⟨k,c,k2⟩:=ZvB a;obtain⟨q,g,h⟩:=Zx9 a k2;obtain⟨l,d,e,f⟩:=Zu6 a.l;exact⟨k,q,l,c,g,d,k2,h,e,f⟩
def lO(B:Ze)(x:Zv)(k:Zd)(q:Zc)(l:Ŀ Zk):Ze×Int×Int:=
 if Int.tmod x.fY 2=0 then(if(gI B k q).2.2=0 then gI B k q else(B,0,(gI B k q).2.2))
 else(if(ib B x.id l x.Κ).2=0 then((ib B x.id l x.Κ).1,0,0)else(B,0,(ib B x.id l x.Κ).2))
theorem Zx5{B:Ze}{k:Zd}{q:Zc}(h:¬(gI B k q).2.2=0):(gI B k q).2.1=0:=by
 unfold gI at h⊢;split at h
 .exact absurd rfl h
 rw[ā ‹_›]
theorem ZwB{B:Ze}(h:ì B)(g:B.t.length<=90){x:Zv}{k:Zd}{q:Zc}{l:Ŀ Zk}(a:rP x k q l):(Sp B x).ω (lO B x k q l)/\(LD B x).ω (lO B x k q l):=by
 unfold lO;by_cases d:Int.tmod x.fY 2=0
 .rw[ą d];have a1:=Bg h ŉ a.k a.q;have a2:=Zx0 h ŉ a.k a.q;by_cases c:(gI B k q).2.2=0
  .rw[ą c];refine⟨Cq.wp.yes d ⟨_,a.core,_,a.asks,_,a1,Cq.wp.no (λe=>e c) rfl⟩,Cq.wp.yes d ⟨_,a.core,_,a.asks,_,a2,Cq.wp.no (λe=>e c) ?_⟩⟩;show _=_;have:gI B k q=((gI B k q).1,(gI B k q).2.1,0):=by rw[<-c]
   exact this.symm
  rw[ā c];refine⟨Cq.wp.yes d ⟨_,a.core,_,a.asks,_,a1,Cq.wp.yes c ?_⟩,Cq.wp.yes d ⟨_,a.core,_,a.asks,_,a2,Cq.wp.yes c rfl⟩⟩;show _=_;rw[Zx5 c]
 rw[ā d];have f:=a.len;have a1:=A2 h ŉ x.id ŉ a.l x.Κ;have a2:=Zvm h ŉ x.id ŉ a.l x.Κ;by_cases c:(ib B x.id l x.Κ).2=0
 .rw[ą c];refine⟨Cq.wp.no d ⟨_,a.nk,_,a1,Cq.wp.no (λe=>e c) ?_⟩,Cq.wp.no d ⟨_,a.nk,_,a2,Cq.wp.no (λe=>e c) rfl⟩⟩;show _=_;rw[c]
 rw[ā c];exact⟨Cq.wp.no d ⟨_,a.nk,_,a1,Cq.wp.yes c rfl⟩,Cq.wp.no d ⟨_,a.nk,_,a2,Cq.wp.yes c rfl⟩⟩
theorem Lg{B:Ze}(h:ì B){k:Zd}{q:Zc}(d:Ñ k)(e:fb q)(a:(gI B k q).2.2=0):Grown B (gI B k q).1 4:=by
 unfold gI at a⊢;split at a
 .rw[ą ‹_›];have c:=MD (eJ q (Χ k).2).kind;exact(FZ (n:=5) ŉ h (iN.of d e ‹_›)).1.up c
 cases a
theorem ZwA{B:Ze}(h:ì B){x:Zv}{k:Zd}{q:Zc}{l:Ŀ Zk}(c:rP x k q l):ì (lO B x k q l).1/\B.t.length<=(lO B x k q l).1.t.length/\(lO B x k q l).1.t.length<=B.t.length+4:=by
 unfold lO;split
 .split
  .have a:=Lg h c.k c.q ‹_›;exact⟨a.ok,a.pre.length_le,a.len⟩
  exact⟨h,Ċ _,abt _ _⟩
 split
 .obtain⟨d,e⟩:=Zxf h ‹_›;exact⟨d,aaX e.symm,by show(ib B x.id l x.Κ).1.t.length<=_;omega⟩
 exact⟨h,Ċ _,abt _ _⟩
def jC:Ze:=⟨[],1⟩
theorem y5:ì jC where
 can t a:=absurd a ĝ
 ids i hi:=absurd hi (ĵ _)
 next:=rfl
 Ú:=List.Pairwise.nil
 lz i hi:=absurd hi (ĵ _)
 num t a:=absurd a ĝ
theorem Zvv{l:Ŀ Zv}(h:∀x∈l,kf x):∃B,(LH l).ω B/\ì B/\B.t.length<=24:=by
 have key:∀(m i:Nat),m+i=min l.length 6->∀B,ì B->B.t.length<=4*i->∃C,(RG l ((i:Int),B)).ω C/\ì C/\C.t.length<=24:=by
  intro m;induction m with
  |zero=>
   intro i hi B d j;refine⟨B,Cq.Zt ?_,d,ŉ⟩;by_cases h:i<l.length
   .exact Cq.wp.yes ŉ (Cq.wp.no ŉ rfl)
   exact Cq.wp.no ŉ rfl
  |succ m n=>
   intro i hi B d j;have a:i<l.length:=ŉ;obtain⟨k,q,c,hp⟩:=ZyD (h _ (Ă a));obtain⟨d1,d2,d3⟩:=ZwA d hp;obtain⟨C,e,f,g⟩:=n (i+1) ŉ _ d1 ŉ;refine⟨C,Cq.Zt (Cq.wp.yes ŉ (Cq.wp.yes ŉ ⟨_,Λ a,_,(ZwB d ŉ hp).2,?_⟩)),f,g⟩;show(Cq.loop _ _).wp _;rw[χ ŉ];exact e
 obtain⟨C,e,f,g⟩:=key (min l.length 6) 0 ŉ jC y5 (Ċ _);exact⟨C,⟨jC,rfl,Cq.fj e rfl⟩,f,g⟩
end Go.EL

namespace Go.Proofs.YtepbagkffgddlaaGreat
open Go.IntKind (i8 i16 i32 i64 u8 u16 u32 u64)
open Go.Proofs.Tryz
open Go Go.EL Go.RowKit Go.Proofs
def sJ(x:Zw):Prop:=(∀y∈x.t,∀i,(Lit.int .i8 (y i)).wf=true)
def yn(x:ZB):Prop:=((Lit.int .u8 x.n).wf=true)/\(∀y∈x.l,sJ y)/\(∀y∈x.iT,(Lit.int .u8 y).wf=true)
def sI(x:ZN):Prop:=((Lit.int .u8 x.kind).wf=true)/\(∀y∈x.l,sJ y)/\(∀y∈x.v,(Lit.int .i8 y).wf=true)
def Da(x:Zv):Prop:=((Lit.int .u8 x.fY).wf=true)/\(yn x.c)/\((Lit.int .u8 x.kind).wf=true)/\(sJ x.p)/\((Lit.int .u8 x.o).wf=true)/\(∀y∈x.l,sI y)/\((Lit.int .i64 x.id).wf=true)/\((Lit.int .i64 x.Κ).wf=true)
theorem nE(W:World):ý prog W 37 ZQ (sJ):=by have h:=ý.struct (W:=W) underlying37 İ (Þ.last rfl İ (ý.sl underlying35 İ ĳ (ý.vec underlying197 underlying196 İ İ))) (λ(x:Zw)=>x.t) (λy=>⟨y⟩) (λ_=>rfl);exact h
theorem uR(W:World):ý prog W 34 Ks (yn):=by have h:=ý.struct (W:=W) underlying34 İ (Þ.cons rfl İ (ý.int underlying5) (Þ.cons rfl İ (ý.sl underlying31 İ ĳ (nE W)) (Þ.last rfl İ (ý.sl underlying32 İ ĳ (ý.int underlying5))))) (λ(x:ZB)=>(x.n,x.l,x.iT)) (λy=>⟨y.1,y.2.1,y.2.2⟩) (λ_=>rfl);exact h
theorem sK(W:World):ý prog W 160 tW (sI):=by have h:=ý.struct (W:=W) underlying160 İ (Þ.cons rfl İ (ý.int underlying5) (Þ.cons rfl İ (ý.sl underlying31 İ ĳ (nE W)) (Þ.last rfl İ (ý.sl underlying158 İ ĳ (ý.int underlying196))))) (λ(x:ZN)=>(x.kind,x.l,x.v)) (λy=>⟨y.1,y.2.1,y.2.2⟩) (λ_=>rfl);exact h
theorem uS(W:World):ý prog W 40 xa (Da):=by have h:=ý.struct (W:=W) underlying40 İ (Þ.cons rfl İ (ý.int underlying5) (Þ.cons rfl İ (uR W) (Þ.cons rfl İ (ý.int underlying5) (Þ.cons rfl İ (nE W) (Þ.cons rfl İ (ý.int underlying5) (Þ.cons rfl İ (ý.sl underlying38 İ ĳ (sK W)) (Þ.cons rfl İ (ý.int underlying3) (Þ.last rfl İ (ý.int underlying3))))))))) (λ(x:Zv)=>(x.fY,x.c,x.kind,x.p,x.o,x.l,x.id,x.Κ)) (λy=>⟨y.1,y.2.1,y.2.2.1,y.2.2.2.1,y.2.2.2.2.1,y.2.2.2.2.2.1,y.2.2.2.2.2.2.1,y.2.2.2.2.2.2.2⟩) (λ_=>rfl);exact h
theorem ML{x:Zw}(h:sJ x):jf x:=λv a j=>wf_i8 (h v a j)
theorem ZyQ{x:ZB}(h:yn x):iq x:=⟨wf_u8 h.1,λy c=>ML (h.2.1 y c),λg a=>wf_u8 (h.2.2 g a)⟩
theorem ZyP{x:ZN}(h:sI x):jQ x:=⟨wf_u8 h.1,λy c=>ML (h.2.1 y c),λg a=>wf_i8 (h.2.2 g a)⟩
theorem ZzA{x:Zv}(h:Da x):kf x:=⟨wf_u8 h.1,ZyQ h.2.1,wf_u8 h.2.2.1,ML h.2.2.2.1,wf_u8 h.2.2.2.2.1,λy a=>ZyP (h.2.2.2.2.2.1 y a)⟩
set_option maxRecDepth 100000 in
theorem ZvS{W:World}{base:Nat}{v:Value}{H:Type}{enc:TypeId×Value->H}{b:Nat}{d:DataW H}{ps:Ŀ MemPlace}(a:Value.okWide prog W .any base 22 v)(h:DataW.Trod enc prog W b (λ_=>true) true 22 v d ps):∃p cap l,v=.slice p (List.length l) cap/\Δ xa (jz W) (.slice p l.length cap) l/\∀y∈l,kf y:=by obtain⟨p,cap,l,c,h2,h3⟩:=Zt3 underlying22 İ ĳ (uS W) a h;exact⟨p,cap,l,c,h2,λy e=>ZzA (h3 y e)⟩
end Go.Proofs.YtepbagkffgddlaaGreat

