/- The law TaskReady holds for every input: a part of its proof (fY the code does, plain models, and fY they return). No condition. -/
import Derived.Test.YtepbagkffgddlaaGreatXR9d
import Derived.Test.YtepbagkffgddlaaGreatXR9c
import Derived.Test.YtepbagkffgddlaaGreatXR9b
set_option linter.unusedVariables false
set_option linter.unusedSimpArgs false
namespace Go.EL
open Go.IntKind (i8 i16 i32 i64 u8 u16 u32 u64)
open Go Go.RowKit
theorem S8:∀(f:Nat) (n:Int),(iF f n).length<=f+1
 |0,_=>by simp[iF]
 |f+1,n=>by
  unfold iF;split
  .have:=S8 f (u64.wrap (Int.tdiv n 128));rw[Ě];omega
  simp
theorem q0(n:Int):(fw n).length<=11:=S8 10 n
theorem qq{n:Int}(a:0<=n):0<=Int.tdiv n 128/\Int.tdiv n 128=n / 128:=⟨Int.tdiv_nonneg a ĳ,abb a⟩
theorem TB:∀(f:Nat) (b:Ŀ Int) (n:Int),0<=n->n<128 ^ (f+1)->n<18446744073709551616->b.length+f+1<=1000000->(EZ (b,n)).wp λo=>(E0 o.1 o.2).Α (b++iF f n)
 |0,b,n,c,d,h2,g=>by refine Cq.Zs (Cq.wp.no ŉ ?_);show(E0 b n).Α _;refine⟨?_,rfl⟩;rw[Ā,ė];simp only[small];omega
 |f+1,b,n,c,d,h2,g=>by
  by_cases h:127<n
  .refine Cq.Zs (Cq.wp.yes h ⟨?_,?_⟩)
   .rw[Ā,ė];simp only[small];omega
   obtain⟨d0,d1⟩:=qq c;have a:n / 128<128 ^ (f+1):=Int.ediv_lt_of_lt_mul ĳ (by rw[<-Int.pow_succ];exact d);have i:u64.wrap (Int.tdiv n 128)=n / 128:=by rw[d1];exact qA ⟨ŉ,ŉ⟩
   show(EZ _).wp _;have j:=TB f (b++[u8.wrap (u8.wrap (Int.tmod n 128)+128)]) (u64.wrap (Int.tdiv n 128)) ŉ (by rw[i];exact a) ŉ (by rw[Ā,ė];omega);refine(EZ _).mono (λo e=>?_) j;rw[Đ]at e;unfold iF;rw[ą (show 128<=n by omega)];exact e
  refine Cq.Zs (Cq.wp.no h ?_);show(E0 b n).Α _;unfold iF;rw[ā (show ¬128<=n by omega)];refine⟨?_,rfl⟩;rw[Ā,ė];simp only[small];omega
theorem Of:(128:Int) ^ (10+1)=151115727451828646838272:=ĳ
theorem vt{b:Ŀ Int}{n:Int}(h:0<=n/\n<18446744073709551616)(c:b.length<=900000):(uf b n).Α (b++fw n):=by have a:=Of;exact TB 10 b n h.1 ŉ h.2 ŉ
theorem xD{n:Nat}(h:n<=1000000):u64.wrap (n:Int)=(n:Int):=qA ⟨ŉ,ŉ⟩
theorem Lj(d:Int):(fE d).length=4:=rfl
theorem tW{α:Type}{f:α->Ŀ Int}{K:Nat}:∀{l:Ŀ α},(∀x∈l,(f x).length<=K)->(l.flatMap f).length<=K*l.length
 |[],_=>Ĉ _
 |x::l,h=>by have c:=h x ß;have h2:=tW (l:=l) (λy a=>h y (by simp[a]));rw[Ř,Ā,Ě,Nat.mul_succ];omega
theorem Ff{α:Type}(f:α->Ŀ Int)(l:Ŀ α){k:Nat}(a:k<l.length):(l.take (k+1)).flatMap f=(l.take k).flatMap f++f l[k]:=by rw[ċ a,dw];simp
theorem Lq{a:Zg}(h:a.χ.length<=1):(lj a).length<=15:=by unfold lj;rw[Ā];have c:=q0 (if a.neg=true then u64.wrap (u64.wrap (2*u64.wrap (a.χ.length:Int))+1)else u64.wrap (2*u64.wrap (a.χ.length:Int)));have h2:=tW (K:=4) (l:=a.χ) (f:=fE) (λx _=>aaV (Lj x));omega
theorem RD{b:Ŀ Int}{a:Zg}(h:a.χ.length<=1)(m:b.length<=800000):(AO b a).Α (b++lj a):=by
 have key:∀s:Int,0<=s->s<=1->(Es b a s).Α (b++(fw (u64.wrap (u64.wrap (u64.wrap (a.χ.length:Int)*2)+s))++a.χ.flatMap fE)):=λs p q=>by
  have e:=xD (n:=a.χ.length) ŉ;have c:u64.wrap ((a.χ.length:Int)*2)=(a.χ.length:Int)*2:=qA ⟨ŉ,ŉ⟩;have j:u64.wrap ((a.χ.length:Int)*2+s)=(a.χ.length:Int)*2+s:=qA ⟨ŉ,ŉ⟩;refine⟨_,vt (by rw[e,c,j];omega) ŉ,?_⟩;have d:=q0 (u64.wrap (u64.wrap (u64.wrap (a.χ.length:Int)*2)+s));generalize fw (u64.wrap (u64.wrap (u64.wrap (a.χ.length:Int)*2)+s))=N at *;refine Cq.Zn a.χ.length (λk st=>st=(b++N++(a.χ.take k).flatMap fE,(k:Int))) (λk st i g=>?_) (λst g=>?_) (by show _=_;simp)
  .subst g;refine Cq.wp.yes ŉ ⟨_,Μ i,?_,?_⟩
   .have:=tW (K:=4) (l:=a.χ.take k) (f:=fE) (λx _=>aaV (Lj x));rw[č]at this;simp only[Ā,Ě,Ļ,small];omega
   show _=_;rw[ψ ŉ,Ff fE a.χ i,<-Đ];rfl
  subst g;refine Cq.wp.no ŉ ?_;rw[ě (Ĉ _)];show _=_;rw[Đ]
 unfold AO;have e:=xD (n:=a.χ.length) ŉ;have c:u64.wrap ((a.χ.length:Int)*2)=(a.χ.length:Int)*2:=qA ⟨ŉ,ŉ⟩;by_cases d:a.neg=true
 .refine Cq.wp.yes d ?_;have:=key 1 ĳ ĳ;unfold lj;rw[ą d,aaC 2];exact this
 refine Cq.wp.no d ?_;have:=key 0 ĳ ĳ;unfold lj;rw[ā d,aaC 2];rw[aaB,e,c,c]at this;rw[e,c];exact this
theorem ω.CK{p:Ù}(h:ω p){t:Za}(d:t∈p):t.c.num.χ.length<=1/\t.c.den.χ.length<=1:=by obtain⟨a,c⟩:=h.parts d;rw[a,c];refine⟨?_,Ĉ 1⟩;show(uL _).length<=1;unfold uL;split<;>simp
theorem T0{p:Ù}(h:ω p){t:Za}(c:t∈p):(mu t.c).length<=30:=by obtain⟨a,h2⟩:=h.CK c;have:=Lq a;have:=Lq h2;unfold mu;rw[Ā];omega
theorem LM(m:M):∀k,(iE m k).length<=11*k
 |0=>Ĉ _
 |k+1=>by have:=LM m k;have:=q0 (u64.wrap (Ε m (k:Int)));unfold iE;rw[Ā];omega
theorem S0{p:Ù}(h:ω p){t:Za}(a:t∈p):(fU t).length<=118:=by have:=T0 h a;have:=LM t.m 8;unfold fU;rw[Ā];omega
theorem Fj{p:Ù}(h:ω p):(fD p).length<=11811:=by have c:=q0 (u64.wrap (p.length:Int));have h2:=tW (f:=fU) (K:=118) (λt a=>S0 h a);have h3:=h.len;have:118*p.length<=11800:=ŉ;unfold fD;rw[Ā];omega
theorem AH{l:Ŀ Ù}(h:∀p∈l,ω p)(c:l.length<=12):(fQ l).length<=150000:=by have a:=q0 (u64.wrap (l.length:Int));have h2:=tW (f:=fD) (K:=11811) (λp hp=>Fj (h p hp));have:11811*l.length<=141732:=ŉ;unfold fQ;rw[Ā];omega
theorem SX{b:Ŀ Int}{p:Ù}(h:ω p)(A:b.length<=700000):(FJ b p).Α (b++fD p):=by
 have C:=h.len;have m:=xD (n:=p.length) ŉ;refine⟨_,vt (by rw[m];omega) ŉ,?_⟩;unfold fD;have E:=q0 (u64.wrap (p.length:Int));generalize fw (u64.wrap (p.length:Int))=N at *;refine Cq.Zn p.length (λk st=>st=(b++N++(p.take k).flatMap fU,(k:Int))) (λk st d a=>?_) (λst a=>?_) (by show _=_;simp)
 .subst a;have e:=Ă d;obtain⟨i,y⟩:=h.CK e;have r:=tW (K:=118) (l:=p.take k) (f:=fU) (λx v=>S0 h (ś v));rw[č]at r;have s:118*min k p.length<=11800:=ŉ;have hr:=T0 h e;refine Cq.wp.yes ŉ ⟨_,Μ d,b++N++(p.take k).flatMap fU++mu p[k].c,⟨_,RD i (by simp only[Ā];omega),_,RD y (by
   have:=Lq i;simp only[Ā];omega),?_⟩,?_⟩
  .show _=_;unfold mu;simp only[Đ]
  generalize g:b++N++(p.take k).flatMap fU++mu p[k].c=B;have q:B.length<=750000:=by rw[<-g];simp only[Ā];omega
  refine Cq.Zn 8 (λj st=>st=(B++iE p[k].m j,(j:Int))) (λj st c a=>?_) (λst a=>?_) (by show _=_;simp[iE])
  .subst a;have D:=(h.mono _ e) ⟨j,c⟩;have t:=LM p[k].m j;have u:u64.wrap (p[k].m ⟨j,c⟩)=p[k].m ⟨j,c⟩:=qA ⟨ŉ,ŉ⟩;refine Cq.wp.yes ŉ ⟨_,Μ d,⟨ŉ,ŉ⟩,B++iE p[k].m j++fw (u64.wrap (Ε p[k].m (j:Int))),vt (by rw[Ô c,u];omega) (by rw[Ā];omega),?_⟩;show _=_;rw[ψ ŉ,Đ];rfl
  subst a;refine Cq.wp.no ĳ ?_;show _=_;rw[ψ ŉ,Ff fU p d,<-g];unfold fU;simp only[Đ]
 subst a;refine Cq.wp.no ŉ ?_;rw[ě (Ĉ _)];show _=_;rw[Đ]
theorem RB{b:Ŀ Int}{l:Ŀ Ù}(h:∀p∈l,ω p)(m:l.length<=12)(j:b.length<=500000):(Fu b l).Α (b++fQ l):=by
 have d:=xD (n:=l.length) ŉ;refine⟨_,vt (by rw[d];omega) ŉ,?_⟩;unfold fQ;have q:=q0 (u64.wrap (l.length:Int));generalize fw (u64.wrap (l.length:Int))=N at *;refine Cq.Zn l.length (λk st=>st=(b++N++(l.take k).flatMap fD,(k:Int))) (λk st a c=>?_) (λst c=>?_) (by show _=_;simp)
 .subst c;have e:=tW (K:=11811) (l:=l.take k) (f:=fD) (λx i=>Fj (h x (ś i)));rw[č]at e;have g:11811*min k l.length<=141732:=ŉ;refine Cq.wp.yes ŉ ⟨_,Μ a,_,SX (h _ (Ă a)) (by simp only[Ā];omega),?_⟩;show _=_;rw[ψ ŉ,Ff fD l a];simp only[Đ]
 subst c;refine Cq.wp.no ŉ ?_;rw[ě (Ĉ _)];show _=_;rw[Đ]
structure iL (n:Int) (least:Int) (l:Ŀ Ù):Prop where
 len:l.length<=12
 hZ:∀p∈l,ω p/\Ð p n=true/\p≠[]/\Χ p=p/\least<=gi p
 st:hK l
structure ç (k:Zb):Prop where
 n:1<=k.n/\k.n<=4
 eqs:iL k.n 0 k.eqs
 δ:iL k.n 1 k.δ
theorem FT(n:Int):(lq n).length<=11:=q0 _
theorem SU{k:Zb}(g:0<=k.n/\k.n<=1000)(c:∀p∈k.eqs,ω p)(hi:∀p∈k.δ,ω p)(le:k.eqs.length<=12)(e:k.δ.length<=12):(vk [] k).Α (gV k):=by
 have d:u64.wrap k.n=k.n:=qA ⟨ŉ,ŉ⟩;have a:u64.wrap (k.n*2)=k.n*2:=qA ⟨ŉ,ŉ⟩;have f:=FT k.n;have h2:=AH c le;refine⟨lq k.n,Cq.wp.no ŉ ⟨_,vt (b:=[]) (by rw[d,a];omega) ß,?_⟩,_,RB c le ŉ,_,RB hi e (by rw[Ā];omega),?_⟩
 .show _=_;unfold lq;rw[aaC 2];rfl
 rfl
theorem ç.C2{k:Zb}(h:ç k):(vk [] k).Α (gV k):=SU ⟨by have:=h.n;omega,by have:=h.n;omega⟩ (λp hp=>(h.eqs.hZ p hp).1) (λp hp=>(h.δ.hZ p hp).1) h.eqs.len h.δ.len
theorem Zwf{k:Zb}(h:ç k):(gV k).length<=1000000:=by have a:=FT k.n;have h2:=AH (λp hp=>(h.eqs.hZ p hp).1) h.eqs.len;have h3:=AH (λp hp=>(h.δ.hZ p hp).1) h.δ.len;unfold gV;simp only[Ā];omega
theorem Fe{p:Ù}{n:Int}(h:Ð p n=true):(Int.fdiv (i64.wrap (ï p)) (2 ^ (min n.toNat i64.bits)))=0/\gi p<=12:=by
 unfold Ð at h;split at h
 .exact⟨‹_›,ĥ h⟩
 cases h
theorem Sk{l:Ŀ Ù}(h:hK l){k:Nat}(a:k+1<l.length):ë l[k] l[k+1]<0:=Ħ.1 h k (k+1) ŉ a ŉ
theorem Ro{k:Zb}(p:1<=k.n/\k.n<=4){least:Int}{l:Ŀ Ù}(h:iL k.n least l):(ÿ ⟨k⟩ l least).Α true:=by
 have n:=h.len;refine Cq.wp.no ŉ ?_;refine Cq.Zn l.length (λj s=>s=(j:Int)) (λj s c d=>?_) (λs d=>?_) rfl
 .subst d;obtain⟨a,f,g,q4,q5⟩:=h.hZ _ (Ă c);obtain⟨f1,f2⟩:=Fe f;refine Cq.wp.yes ŉ ⟨_,Μ c,true,⟨true,DS a,_,FA a.len,by show 0<=k.n;omega,Cq.wp.yes f1 ⟨_,yz a,ă f2⟩⟩,_,yz a,Cq.wp.no ŉ ⟨_,Kn a g,true,?_,Cq.wp.no ĳ ?_⟩⟩
  .rw[q4];have:=E4 a.gq a.gq;rw[xn]at this;exact this
  by_cases e:(0:Int)<(j:Int)
  .obtain⟨i,rfl⟩:∃i,j=i+1:=⟨j-1,ŉ⟩;have hi:i64.wrap (((i+1:Nat):Int)-1)=(i:Int):=by rw[wrap64 ŉ];omega
   have m:=Sk h.st c;refine Cq.wp.yes e ?_;rw[hi];refine⟨_,Μ ŉ,_,S6 (h.hZ _ (Ă ŉ)).1.gq a.gq,Cq.wp.no ŉ ?_⟩;exact ψ ŉ
  exact Cq.wp.no e (ψ ŉ)
 subst d;exact Cq.wp.no ŉ rfl
theorem E6{k:Zb}(h:ç k):(vh k).Α true:=
 ⟨true,Cq.wp.yes h.n.1 (Cq.wp.yes h.n.2 ⟨true,Ro h.n h.eqs,true,Ro h.n h.δ,rfl⟩),rfl⟩
theorem Zrg{p:Ù}(h:ω p){n:Nat}(e:n<=4)(d:Ð p (n:Int)=true):(wX p (n:Int) 12).Α true:=by
 have g:=(pr (p:=p) (n:=n) ŉ).1 d;obtain⟨f1,f2⟩:=Fe d;have c:u64.wrap (n:Int)=(n:Int):=by
  match n,e with
  |0,_=>rfl
  |1,_=>rfl
  |2,_=>rfl
  |3,_=>rfl
  |4,_=>rfl
 have i:=ua p;have f:=yD.2 g.1;rw[ů]at f;have a:(ï p).toNat<2 ^ n:=by
  rcases eH.1 f with h|h
  .have:=aac n;omega
  exact h
 refine⟨true,Ah h,_,Af h.len,by rw[c];omega,Cq.wp.yes ?_ ⟨_,wU h,ă f2⟩⟩;rw[c,wrap64 ŉ];match n,e with
 |0,_=>exact Œ (show ï p<1 by simp at a;omega) ĳ
 |1,_=>exact Œ (show ï p<2 by simp at a;omega) ĳ
 |2,_=>exact Œ (show ï p<4 by simp at a;omega) ĳ
 |3,_=>exact Œ (show ï p<8 by simp at a;omega) ĳ
 |4,_=>exact Œ (show ï p<16 by simp at a;omega) ĳ
theorem Qg{n:Int}(f:1<=n/\n<=4){least:Int}{l:Ŀ Ù}(h:iL n least l):(E2 l n).Α true:=by
 have r:=h.len;obtain⟨m,rfl,t,g⟩:=vC f;refine Cq.wp.no ŉ ?_;refine Cq.Zn l.length (λj s=>s=(j:Int)) (λj s a d=>?_) (λs d=>?_) rfl
 .subst d;obtain⟨c,k,p,q4,q5⟩:=h.hZ _ (Ă a);have hp:0<l[j].length:=ş.2 p;refine Cq.wp.yes ŉ ⟨_,Μ a,true,Zrg c g k,_,Μ a,Cq.wp.no ŉ ⟨_,Μ a,_,PD c,_,Μ a,true,?_,?_⟩⟩
  .rw[q4];have:=Ku c.gq c.gq;rw[xn]at this;exact this
  show(if(0:Int)<(j:Int)then _ else _:Cq _).wp _;by_cases e:(0:Int)<(j:Int)
  .obtain⟨i,rfl⟩:∃i,j=i+1:=⟨j-1,ŉ⟩;have hi:i64.wrap (((i+1:Nat):Int)-1)=(i:Int):=by rw[wrap64 ŉ];omega
   have q:=Sk h.st a;refine Cq.wp.yes e ?_;rw[hi];refine⟨_,Μ ŉ,_,Μ a,_,SV (h.hZ _ (Ă ŉ)).1.gq c.gq,Cq.wp.no ŉ ?_⟩;exact ψ ŉ
  exact Cq.wp.no e (ψ ŉ)
 subst d;exact Cq.wp.no ŉ rfl
theorem Kb{k:Zb}(h:ç k):(AN k).Α true:=by
 have f:=h.n;have e:=h.δ.len;refine Cq.wp.no ŉ (Cq.wp.no ŉ ⟨true,Qg h.n h.eqs,true,Qg h.n h.δ,Cq.wp.no ĳ ?_⟩);refine Cq.Zn k.δ.length (λj s=>s=(j:Int)) (λj s c a=>?_) (λs a=>?_) rfl
 .subst a;obtain⟨d,g,i,q4,q5⟩:=h.δ.hZ _ (Ă c);refine Cq.wp.yes ŉ ⟨_,Μ c,_,wU d,Cq.wp.no ŉ ?_⟩;exact ψ ŉ
 subst a;exact Cq.wp.no ŉ rfl
def þ(k:Zb):Ĳ:=bytesOf (gV k)
theorem y4{k:Zb}(h:ç k):(vr k).Α (þ k):=⟨true,E6 h,⟨by have:=h.n;omega,Zwf h⟩,rfl⟩
theorem TA{k:Zb}(h:ç k):(F6 k).Α (þ k):=⟨true,Kb h,Cq.wp.no ĳ ⟨_,h.C2,rfl⟩⟩
end Go.EL

namespace Go.EL
open Go.IntKind (i8 i16 i32 i64 u8 u16 u32 u64)
open Go Go.RowKit
structure gD (n:Nat) (π:M):Prop where
 perm:Ì π
 fix:∀i:Fin 8,n<=i.val->π i=(i.val:Int)
def jA(n:Nat)(π:M):Bool:=decide (∀i,0<=π i/\π i<8)&&decide (∀i j,π i=π j->i=j)&&decide (∀i:Fin 8,n<=i.val->π i=(i.val:Int))
theorem gD.of{n:Nat}{π:M}(h:jA n π=true):gD n π:=by unfold jA at h;simp only[ĉ,Ę]at h;exact⟨⟨h.1.1,h.1.2⟩,h.2⟩
theorem Zxb:((Β 1).all (jA 1)&&(Β 2).all (jA 2)&&(Β 3).all (jA 3)&&(Β 4).all (jA 4))=true:=by decide +kernel
theorem oe{n:Nat}(h:1<=n/\n<=4){π:M}(hp:π∈Β n):gD n π:=by
 have:=Zxb;simp only[ĉ,Ć]at this;obtain⟨⟨⟨a,h2⟩,h3⟩,c⟩:=this;have d:n=1\/n=2\/n=3\/n=4:=ŉ;rcases d with rfl|rfl|rfl|rfl
 .exact .of (a π hp)
 .exact .of (h2 π hp)
 .exact .of (h3 π hp)
 exact .of (c π hp)
theorem ZvV{n:Nat}(h:1<=n/\n<=4):(La (n:Int)).Α (Β n):=by
 have a:n=1\/n=2\/n=3\/n=4:=ŉ;rcases a with rfl|rfl|rfl|rfl<;>exact Cq.Α.me 60 (by decide +kernel)
theorem vq{n:Nat}:Β n=(λi:Fin 8=>(i.val:Int))::(Β n).tail:=rfl
theorem SH{n:Nat}(d:n<=8){π:M}(h:gD n π){p:Ù}(hp:ω p)(f:Ð p (n:Int)=true):Ð (à π p) (n:Int)=true:=by
 obtain⟨e,h2⟩:=(pr d).1 f;refine(pr d).2 ⟨λt a i hi=>?_,λt a=>?_⟩
 .obtain⟨y,c,rfl⟩:=Ğ.1 ((q6 h.perm hp.ord).1.mem_iff.1 a);show ¬0<fx π y.m i;rw[tZ h.perm y.m i i (h.fix i hi).symm];exact e y c i hi
 obtain⟨y,c,rfl⟩:=Ğ.1 ((q6 h.perm hp.ord).1.mem_iff.1 a);show fG (fx π y.m)<=12;rw[KZ h.perm];exact h2 y c
theorem Zw9{π:M}(h:Ì π){p:Ù}(hp:ω p):(à π p).length=p.length:=by rw[(q6 h hp.ord).1.length_eq,ć]
theorem Zyq{π:M}(h:Ì π){p:Ù}(hp:ω p)(a:p≠[]):à π p≠[]:=λe=>by have:=Zw9 h hp;rw[e]at this;exact a (abt.1 this.symm)
theorem Zzn{p q:Ù}(hp:ω p)(e:ω q)(h:∀d,-1<=d->((∀t∈p,fG t.m<=d)↔∀t∈q,fG t.m<=d)):gi p=gi q:=by
 have low:∀r:Ù,-1<=gi r:=λr=>by
  have key:∀k,-1<=fH r k:=by
   intro k;induction k with
   |zero=>exact Ŝ _
   |succ k a=>
    unfold fH;split
    .split<;>omega
    exact a
  exact key _
 have c:=(tw (low q)).2 ((h _ (low q)).2 ((tw (low q)).1 (Ŝ _)));have h2:=(tw (low p)).2 ((h _ (low p)).1 ((tw (low p)).1 (Ŝ _)));omega
theorem Zw8{π:M}(h:Ì π){p:Ù}(hp:ω p):gi (à π p)=gi p:=by
 refine Zzn (oB h hp) hp (λd _=>⟨λa t c=>?_,λa t c=>?_⟩)
 .have:=a (jf π t) ((q6 h hp.ord).1.mem_iff.2 (Ğ.2 ⟨t,c,rfl⟩));have e:fG (jf π t).m=fG t.m:=KZ h t.m;omega
 obtain⟨y,f,rfl⟩:=Ğ.1 ((q6 h hp.ord).1.mem_iff.1 c);have:=a y f;have e:fG (jf π y).m=fG y.m:=KZ h y.m;omega
theorem ZzZ{n:Nat}(h:n<=4):Ð iV (n:Int)=true:=(pr ŉ).2 ⟨λt a i _=>by rw[iV,Ĕ]at a;subst a;exact Int.lt_irrefl 0,λt a=>by rw[iV,Ĕ]at a;subst a;decide⟩
theorem ZzY:gi iV=0:=ĳ
theorem Tq{l:Ŀ Ù}{plain:Bool}{q:Ù}(h:q∈kept l plain):∃p∈l,q=Χ p/\p≠[]/\(plain=true->gi p≠0):=by
 obtain⟨a,h2⟩:=ŋ.1 h;obtain⟨p,hp,rfl⟩:=Ğ.1 a;unfold gW at h2;simp only[ĉ,Ő,aaD]at h2;refine⟨p,hp,rfl,λe=>?_,λe=>?_⟩
 .rw[e]at h2;cases h2.1
 rcases h2.2 with h2|h2
 .rw[e]at h2;cases h2
 rw[xw]at h2;exact aaY h2
theorem ZzP{l:Ŀ Ù}{plain:Bool}{p:Ù}(hp:p∈l)(c:p≠[])(d:plain=true->gi p≠0):Χ p∈kept l plain:=by
 refine ŋ.2 ⟨Ğ.2 ⟨p,hp,rfl⟩,?_⟩;have a:(Χ p).isEmpty=false:=by simpa using λe=>c (Bc.1 e)
 unfold gW;rw[a,xw];cases plain with
 |false=>rfl
 |true=>rw[Ċ (d rfl)];rfl
theorem U4{n:Nat}(e:n<=4){least:Int}{l:Ŀ Ù}(a:(ep l).length<=12)(h:∀p∈l,ω p/\Ð p (n:Int)=true/\p≠[]/\Χ p=p/\least<=gi p):iL (n:Int) least (ep l):=by obtain⟨c,d⟩:=FY (l:=l) (λp hp=>(h p hp).1.gq);exact⟨a,λp hp=>h p ((d p).1 hp),c⟩
theorem Uz{n:Nat}(f:1<=n/\n<=4){eqs δ:Ŀ Ù}(g:∀p∈eqs,ω p/\Ð p (n:Int)=true)(hi:∀p∈δ,ω p/\Ð p (n:Int)=true)(j:(ep (hN eqs δ)).length<=12)(k:(ep (kept δ true)).length<=12):
  ç ⟨(n:Int),ep (hN eqs δ),ep (kept δ true)⟩ where
 n:=by show 1<=(n:Int)/\(n:Int)<=4;omega
 eqs:=U4 f.2 j λp hp=>by
  rcases Ĩ.1 hp with h|h
  .obtain⟨q,d,rfl,c,_⟩:=Tq h;have a:=(g q d).1;exact⟨vB a,by rw[TY];exact(g q d).2,λe=>c (Bc.1 e),Se a,by rw[xw];exact Km a c⟩
  rw[LR p h];exact⟨Bj,ZzZ f.2,ĳ,LQ,by rw[ZzY];decide⟩
 δ:=U4 f.2 k λp hp=>by obtain⟨q,d,rfl,c,i⟩:=Tq hp;have a:=(hi q d).1;have:=Km a c;have:=i rfl;exact⟨vB a,by rw[TY];exact(hi q d).2,λe=>c (Bc.1 e),Se a,by rw[xw];omega⟩
def ü(k:Zb)(π:M):Zb:=(im k.n (k.eqs.map (à π)) (k.δ.map (à π))).1
theorem Le{l:Ŀ Ù}(h:∀p∈l,p≠[]):gI l=[]:=by unfold gI;rw[List.filter_eq_nil_iff.2 λp hp=>by simpa using h p hp];rfl
structure Aa (k:Zb) (π:M):Prop where
 norm:im k.n (k.eqs.map (à π)) (k.δ.map (à π))=(ü k π,0)
 eq:ü k π=⟨k.n,ep (hN (k.eqs.map (à π)) (k.δ.map (à π))),ep (kept (k.δ.map (à π)) true)⟩
 core:ç (ü k π)
theorem Gj{l:Ŀ Ù}{n:Nat}{least:Int}(g:n<=4)(h:iL (n:Int) least l){π:M}(a:gD n π):∀p∈l.map (à π),ω p/\Ð p (n:Int)=true/\p≠[]/\least<=gi p:=λp hp=>by obtain⟨q,d,rfl⟩:=Ğ.1 hp;obtain⟨c,e,f,q4,q5⟩:=h.hZ q d;exact⟨oB a.perm c,SH ŉ a c e,Zyq a.perm c f,by rw[Zw8 a.perm c];exact q5⟩
theorem lQ{k:Zb}(h:ç k){π:M}(a:gD k.n.toNat π):Aa k π:=by
 obtain⟨n,eqs,δ⟩:=k;obtain⟨m,rfl,t,f⟩:=vC h.n;dsimp only at a⊢;rw[Ē]at a;have e:=Gj f h.eqs a;have hi:=Gj f h.δ a;have r:(ep (hN (eqs.map (à π)) (δ.map (à π)))).length<=12:=by have g:=Gd (hN (eqs.map (à π)) (δ.map (à π)));have i:=vu (eqs.map (à π)) false;have j:=h.eqs.len;unfold hN at g;rw[Le (λp hp=>(hi p hp).2.2.1),ę]at g;unfold hN;rw[Le (λp hp=>(hi p hp).2.2.1),ę];rw[ć]at i;dsimp only at j;omega
 have s:(ep (kept (δ.map (à π)) true)).length<=12:=by have g:=Gd (kept (δ.map (à π)) true);have i:=vu (δ.map (à π)) true;have j:=h.δ.len;rw[ć]at i;dsimp only at j;omega
 have q:=Uz ⟨t,f⟩ (λp hp=>⟨(e p hp).1,(e p hp).2.1⟩) (λp hp=>⟨(hi p hp).1,(hi p hp).2.1⟩) r s;have c:(eqs.map (à π)++δ.map (à π)).all (λp=>Ð p (m:Int))=true:=Ć.2 λp hp=>(Ĩ.1 hp).elim (λh=>(e p h).2.1) (λh=>(hi p h).2.1);have l:im (m:Int) (eqs.map (à π)) (δ.map (à π))=(⟨(m:Int),ep (hN (eqs.map (à π)) (δ.map (à π))),ep (kept (δ.map (à π)) true)⟩,0):=by unfold im;rw[ą ⟨ŉ,ŉ⟩,ą c,ā ŉ,ā ŉ]
 have d:ü ⟨(m:Int),eqs,δ⟩ π=⟨(m:Int),ep (hN (eqs.map (à π)) (δ.map (à π))),ep (kept (δ.map (à π)) true)⟩:=by unfold ü;dsimp only;rw[l]
 exact⟨by rw[l,d],d,by rw[d];exact q⟩
theorem QG{l:Ŀ Ù}(i:l.length<=100)(h:∀p∈l,ω p){π:M}(g:Ì π):(An l π).Α (l.map (à π)):=by
 refine⟨⟨ŉ,ŉ⟩,?_⟩;refine Cq.Zn l.length (λk s=>s=((l.take k).map (à π)++List.replicate (l.length-k) [],(k:Int))) (λk s c f=>?_) (λs f=>?_) (by show _=_;simp)
 .subst f;have a:((l.take k).map (à π)++List.replicate (l.length-k) ([]:Ù)).length=l.length:=ab0;refine Cq.wp.yes ŉ ⟨_,Μ c,_,Qu g (h _ (Ă c)),_,Μ (by rw[a];exact c),?_⟩;show _=_;rw[ψ ŉ,Ē,ċ c,Ī,List.map_singleton];congr 1;rw[List.set_append,ā (by rw[ć,č];omega)];have e:l.length-k=(l.length-(k+1))+1:=ŉ;have d:k-((l.take k).map (à π)).length=0:=ab0;rw[d,e,aaj,aa6,Đ];rfl
 subst f;refine Cq.wp.no ŉ ?_;show _=_;rw[ě (Ĉ _)];simp
theorem P3{k:Zb}(h:ç k){π:M}(a:gD k.n.toNat π):(Et k π).Α (ü k π):=by
 have f:=h.eqs.len;have g:=h.δ.len;refine Cq.Zn k.eqs.length (λj s=>s=((k.eqs.take j).map (à π),(j:Int))) (λj s c d=>?_) (λs d=>?_) rfl
 .subst d;refine Cq.wp.yes ŉ ⟨_,Μ c,_,Jj a.perm (h.eqs.hZ _ (Ă c)).1,?_,?_⟩
  .simp only[Ā,ć,č,ė,small];omega
  show _=_;rw[ψ ŉ,ċ c,Ī];rfl
 subst d;refine Cq.wp.no ŉ ?_;rw[ě (Ĉ _)];show(Pv k π (k.eqs.map (à π))).Α _;refine Cq.Zn k.δ.length (λj s=>s=((k.δ.take j).map (à π),(j:Int))) (λj s c d=>?_) (λs d=>?_) rfl
 .subst d;refine Cq.wp.yes ŉ ⟨_,Μ c,_,Jj a.perm (h.δ.hZ _ (Ă c)).1,?_,?_⟩
  .simp only[Ā,ć,č,ė,small];omega
  show _=_;rw[ψ ŉ,ċ c,Ī];rfl
 subst d;refine Cq.wp.no ŉ ?_;rw[ě (Ĉ _)];show(Pu k (k.eqs.map (à π)) (k.δ.map (à π))).Α _;refine⟨_,Q0 (by rw[ć];omega) (by rw[ć];omega) (λp hp=>?_) (λp hp=>?_),rfl⟩
 .obtain⟨q,e,rfl⟩:=Ğ.1 hp;exact oB a.perm (h.eqs.hZ q e).1
 obtain⟨q,e,rfl⟩:=Ğ.1 hp;exact oB a.perm (h.δ.hZ q e).1
def fk(k:Zb):Ŀ M->Zb×M->Zb×M
 |[],s=>s
 |π::l,s=>fk k l (if Op.bytesLess (þ (ü k π)).toList (þ s.1).toList=true then(ü k π,π)else s)
def â(k:Zb):Zb×M:=fk k (Β k.n.toNat).tail (ü k (λi=>(i.val:Int)),λi=>(i.val:Int))
theorem Ss(k:Zb):∀(l:Ŀ M) (s:Zb×M) (π:M),fk k (l++[π]) s=(if Op.bytesLess (þ (ü k π)).toList (þ (fk k l s).1).toList=true then(ü k π,π)else fk k l s)
 |[],_,_=>rfl
 |x::l,s,π=>Ss k l _ π
theorem L4{k:Zb}(h:ç k):∀{l:Ŀ M}{s:Zb×M},(∀π∈l,gD k.n.toNat π)->ç s.1->ç (fk k l s).1
 |[],_,_,a=>a
 |π::l,s,c,a=>by
  unfold fk;refine L4 h (λx d=>c x (by simp[d])) ?_;split
  .exact (lQ h (c π ß)).core
  exact a
theorem RH(l:Ŀ Int):(bytesOf l).size=l.length:=by
 have key:∀(l:Ŀ Int) (b:Ĳ),(l.foldl (λr n=>r.push (UInt8.ofNat n.toNat)) b).size=b.size+l.length:=by
  intro l;induction l with
  |nil=>intro b;rfl
  |cons x l a=>intro b;rw[List.foldl_cons,a,ByteArray.size_push,Ě];omega
 have:=key l ByteArray.empty;unfold bytesOf;rw[this];simp
theorem YD(k:Zb):þ k≠ByteArray.empty:=λe=>by
 have a:=RH (gV k);have h2:(þ k).size=0:=by rw[e];rfl
 unfold þ at h2;rw[a]at h2;have:1<=(lq k.n).length:=by unfold lq fw iF;split<;>simp
 unfold gV at h2;simp only[Ā]at h2;omega
theorem RI{k:Zb}(h:ç k){π:M}(a:gD k.n.toNat π){s:Zb×M×Ĳ}:
  (rX k π s).Α (if s.2.2=ByteArray.empty then(ü k π,π,þ (ü k π))else if Op.bytesLess (þ (ü k π)).toList s.2.2.toList=true then(ü k π,π,þ (ü k π))else s):=by
 have e:=h.eqs.len
 have f:=h.δ.len
 have hp:=lQ h a
 refine⟨_,QG ŉ (λp hp=>(h.eqs.hZ p hp).1) a.perm,_,QG ŉ (λp hp=>(h.δ.hZ p hp).1) a.perm,(ü k π,0),?_,Cq.wp.no (λh=>h rfl) ⟨_,y4 hp.core,?_⟩⟩
 .rw[<-hp.norm]
  refine Ztq (by rw[ć];omega) (by rw[ć];omega) (λp hp=>?_) (λp hp=>?_)
  .obtain⟨q,d,rfl⟩:=Ğ.1 hp
   exact oB a.perm (h.eqs.hZ q d).1
  obtain⟨q,d,rfl⟩:=Ğ.1 hp
  exact oB a.perm (h.δ.hZ q d).1
 by_cases c:s.2.2=ByteArray.empty
 .rw[ą c];exact Cq.wp.yes c rfl
 rw[ā c]
 refine Cq.wp.no c ?_
 by_cases h2:Op.bytesLess (þ (ü k π)).toList s.2.2.toList=true
 .refine Cq.wp.yes h2 ?_
  show _=_
  rw[ą h2]
 refine Cq.wp.no h2 ?_
 show _=_
 rw[ā h2]
theorem Kk{k:Zb}(h:ç k):∀{l:Ŀ M}{c:Zb}{f:M},(∀π∈l,gD k.n.toNat π)->(nd k l (c,f,þ c)).Α ((fk k l (c,f)).1,(fk k l (c,f)).2,þ (fk k l (c,f)).1)
 |[],_,_,_=>rfl
 |π::l,c,f,a=>by
  refine⟨_,RI h (a π ß),?_⟩;dsimp only;rw[ā (YD c)];unfold fk;split
  .exact Kk h (λx d=>a x (by simp[d]))
  exact Kk h (λx d=>a x (by simp[d]))
theorem lR{k:Zb}(h:ç k):∀π∈Β k.n.toNat,gD k.n.toNat π:=λ_ hp=>oe (by have:=h.n;omega) hp
theorem SO{k:Zb}(h:ç k):(Ek k).Α (â k):=by refine⟨h.n,((â k).1,(â k).2,þ (â k).1),?_,rfl⟩;have hp:=lR h;rw[vq]at hp⊢;refine⟨_,RI h (hp _ ß),?_⟩;rw[ą rfl];exact Kk h (λx a=>hp x (by simp[a]))
theorem ZuX{k:Zb}(h:ç k):(K9 k).Α (â k):=by
 have hp:=lR h;obtain⟨n,t,y,A⟩:=vC h.n;have c:k.n.toNat=n:=ŉ;have a:(Β n).length<=24:=by
  have e:n=1\/n=2\/n=3\/n=4:=ŉ;rcases e with rfl|rfl|rfl|rfl<;>decide +kernel
 unfold â;rw[c]at hp⊢;refine⟨Β n,by rw[t];exact ZvV ⟨y,A⟩,?_⟩;rw[vq]at hp a⊢;generalize (Β n).tail=l at *;generalize q:(λi:Fin 8=>(i.val:Int))=ι at *;rw[Ě]at a;refine⟨ι,⟨ĳ,rfl⟩,_,P3 h (by rw[c];exact hp ι ß),ι,⟨ĳ,rfl⟩,?_⟩;have u:ç (ü k ι):=(lQ h (by rw[c];exact hp ι ß)).core;refine Cq.Zn l.length (λj s=>s=(((j+1:Nat):Int),(fk k (l.take j) (ü k ι,ι)).1,(fk k (l.take j) (ü k ι,ι)).2)) (λj s r ot=>?_) (λs ot=>?_) rfl
 .subst ot;have g:gD k.n.toNat l[j]:=by rw[c];exact hp _ ß
  have p:ç (fk k (l.take j) (ü k ι,ι)).1:=L4 h (λx v=>by rw[c];exact hp x (by simp[ś v])) u;have d:j+1<(ι::l).length:=by rw[Ě];omega
  have e:(ι::l)[j+1]=l[j]:=rfl;refine Cq.wp.yes (by rw[Ě];omega) ⟨_,Μ d,_,by rw[e];exact P3 h g,_,TA (lQ h g).core,_,TA p,?_⟩;have m:i64.wrap (((j+1:Nat):Int)+1)=((j+1+1:Nat):Int):=ψ ŉ;rw[ċ r,Ss];by_cases f:Op.bytesLess (þ (ü k l[j])).toList (þ (fk k (l.take j) (ü k ι,ι)).1).toList=true
  .rw[ą f];refine Cq.wp.yes f ⟨_,Μ d,?_⟩;show _=_;rw[m];rfl
  rw[ā f];refine Cq.wp.no f ?_;show _=_;rw[m]
 subst ot;refine Cq.wp.no (by rw[Ě];omega) ?_;rw[ě (Ĉ _)];rfl
end Go.EL

namespace Go.EL
open Go.IntKind (i8 i16 i32 i64 u8 u16 u32 u64)
open Go Go.RowKit
def kT{α:Type}(S:α->Prop)(w:α->Ŀ Int):Prop:=∀a b x y,S a->S b->w a++x=w b++y->w a=w b/\x=y
theorem kT.both{α:Type}{S:α->Prop}{f g:α->Ŀ Int}(j:kT S f)(k:kT S g):kT S λa=>f a++g a:=λa b x y c d h=>by have h:(f a++g a)++x=(f b++g b)++y:=h;show f a++g a=f b++g b/\_;rw[Đ,Đ]at h;obtain⟨e,h2⟩:=j a b _ _ c d h;obtain⟨h3,i⟩:=k a b _ _ c d h2;exact⟨by rw[e,h3],i⟩
theorem kT.of{α β:Type}{S:α->Prop}{T:β->Prop}{w:β->Ŀ Int}(h:kT T w)(g:α->β)(c:∀a,S a->T (g a)):kT S λa=>w (g a):=λa b x y d f e=>h _ _ x y (c a d) (c b f) e
theorem kT.len{α:Type}{S:α->Prop}{w:α->Ŀ Int}(k:Nat)(h:∀a,S a->(w a).length=k):kT S w:=λa b _ _ c d e=>List.append_inj e (by rw[h a c,h b d])
theorem HM(n:Int):u8.wrap n=n % 256:=rfl
theorem S9:∀(f:Nat) {n m:Int}{x y:Ŀ Int},(0<=n/\n<128*128 ^ f/\n<18446744073709551616)->(0<=m/\m<128*128 ^ f/\m<18446744073709551616)->iF f n++x=iF f m++y->n=m/\x=y
 |0,n,m,x,y,c,a,h=>by simp only[iF,ĸ,ļ,ŏ,HM]at h;have:(128:Int)*128 ^ 0=128:=rfl;exact⟨ŉ,h.2⟩
 |f+1,n,m,x,y,c,a,h=>by
  have hp:(128:Int)*128 ^ (f+1)=128*(128*128 ^ f):=by rw[Int.pow_succ];omega
  have key:∀{z:Int},(0<=z/\z<128*128 ^ (f+1)/\z<18446744073709551616)->u64.wrap (Int.tdiv z 128)=z / 128/\Int.tmod z 128=z % 128:=λ{z} d=>by obtain⟨d0,d1⟩:=qq d.1;exact⟨by rw[d1];exact qA ⟨ŉ,ŉ⟩,Ŕ d.1⟩
  obtain⟨i,j⟩:=key c;obtain⟨e,g⟩:=key a;unfold iF at h;rw[i,j,e,g]at h;simp only[HM]at h;split at h
  .split at h
   .simp only[ĸ,ŏ]at h;obtain⟨k,h2⟩:=S9 f (n:=n / 128) (m:=m / 128) ⟨ŉ,ŉ,ŉ⟩ ⟨ŉ,ŉ,ŉ⟩ h.2;exact⟨ŉ,h2⟩
   simp only[ĸ,ļ,ŏ]at h;omega
  split at h
  .simp only[ĸ,ļ,ŏ]at h;omega
  simp only[ĸ,ļ,ŏ]at h;exact⟨ŉ,h.2⟩
theorem LN{n m:Int}{x y:Ŀ Int}(c:0<=n/\n<18446744073709551616)(a:0<=m/\m<18446744073709551616)(h:fw n++x=fw m++y):n=m/\x=y:=by have:(128:Int)*128 ^ 10=151115727451828646838272:=ĳ;exact S9 10 ⟨c.1,ŉ,c.2⟩ ⟨a.1,ŉ,a.2⟩ h
theorem pc(n:Int):0<=u64.wrap n/\u64.wrap n<18446744073709551616:=by rw[abu];omega
theorem U0{α:Type}(S:α->Prop)(g:α->Int):kT S λa=>fw (u64.wrap (g a)):=λa b x y _ _ h=>by obtain⟨c,h2⟩:=LN (pc _) (pc _) h;exact⟨by show fw _=fw _;rw[c],h2⟩
theorem Lm{α:Type}{S:α->Prop}{w:α->Ŀ Int}(h:kT S w):∀{l m:Ŀ α}{x y:Ŀ Int},l.length=m.length->(∀a∈l,S a)->(∀a∈m,S a)->l.flatMap w++x=m.flatMap w++y->l.flatMap w=m.flatMap w/\x=y
 |[],[],_,_,_,_,_,e=>⟨rfl,e⟩
 |[],_::_,_,_,d,_,_,_=>by cases d
 |_::_,[],_,_,d,_,_,_=>by cases d
 |a::l,b::m,x,y,d,g,h2,e=>by rw[Ř,Ř,Đ,Đ]at e;obtain⟨i,j⟩:=h a b _ _ (g a ß) (h2 b ß) e;obtain⟨k,q4⟩:=Lm h (l:=l) (m:=m) (by simpa using d) (λc f=>g c (by simp[f])) (λc f=>h2 c (by simp[f])) j;exact⟨by rw[Ř,Ř,i,k],q4⟩
theorem Ts{α:Type}{S:α->Prop}{w:α->Ŀ Int}(h:kT S w):kT (λl:Ŀ α=>l.length<=1000000/\∀a∈l,S a) λl=>fw (u64.wrap (l.length:Int))++l.flatMap w:=λl m x y d f e=>by have e:(fw (u64.wrap (l.length:Int))++l.flatMap w)++x=(fw (u64.wrap (m.length:Int))++m.flatMap w)++y:=e;show fw _++_=fw _++_/\_;rw[Đ,Đ]at e;obtain⟨c,h2⟩:=LN (pc _) (pc _) e;rw[xD d.1,xD f.1]at c;have c:l.length=m.length:=ŉ;obtain⟨h3,g⟩:=Lm h c d.2 f.2 h2;exact⟨by rw[c,h3],g⟩
theorem UR:kT (λa:Zg=>a.χ.length<=1000000) lj:=λa b x y j k e=>by
 unfold lj at e⊢;rw[Đ,Đ]at e;have g:∀c:Zg,c.χ.length<=1000000->(if c.neg=true then u64.wrap (u64.wrap (2*u64.wrap (c.χ.length:Int))+1)else u64.wrap (2*u64.wrap (c.χ.length:Int)))=2*(c.χ.length:Int)+if c.neg=true then 1 else 0:=λc l=>by rw[xD l,qA (x:=2*(c.χ.length:Int)) ⟨ŉ,ŉ⟩,qA (x:=2*(c.χ.length:Int)+1) ⟨ŉ,ŉ⟩];split<;>omega
 rw[g a j,g b k]at e⊢;obtain⟨f,h2⟩:=LN (by split<;>omega) (by split<;>omega) e;have h3:a.χ.length=b.χ.length:=by split at f<;>split at f<;>omega
 obtain⟨h,i⟩:=Lm (S:=λ_=>True) (kT.len 4 λd _=>Lj d) h3 (λ_ _=>trivial) (λ_ _=>trivial) h2;exact⟨by rw[f,h],i⟩
theorem Zz7:kT (λa:Zf=>a.num.χ.length<=1000000/\a.den.χ.length<=1000000) mu:=kT.both (UR.of _ λa h=>h.1) (UR.of _ λa h=>h.2)
theorem UX(S:(Fin 8->Int)->Prop):∀k,kT S λm=>iE m k
 |0=>λ_ _ _ _ _ _ e=>⟨rfl,e⟩
 |k+1=>kT.both (UX S k) (U0 S _)
theorem ZyN:kT (λt:Za=>t.c.num.χ.length<=1000000/\t.c.den.χ.length<=1000000) fU:=kT.both (Zz7.of _ λa h=>h) ((UX (λ_=>True) 8).of _ λa _=>trivial)
theorem ω.code{p:Ù}(h:ω p):p.length<=1000000/\∀t∈p,t.c.num.χ.length<=1000000/\t.c.den.χ.length<=1000000:=⟨by have:=h.len;omega,λt c=>by
 obtain⟨a,e,d,h2,h3⟩:=(h.th t c).c;have f:t.c.num.χ.length<=1/\t.c.den.χ.length<=1:=by
  have:(á (-12) 12 λa=>decide ((û a).num.χ.length<=1/\(û a).den.χ.length<=1))=true:=by decide +kernel
  rw[e];exact ĥ (Zq this (x:=a) ŉ ŉ)
 omega⟩
theorem Zys:kT ω fD:=λa b x y c d e=>Ts ZyN a b x y c.code d.code e
theorem Sc:kT (λl:Ŀ Ù=>l.length<=1000000/\∀p∈l,ω p) fQ:=Ts Zys
theorem ç.code{k:Zb}(h:ç k):(k.eqs.length<=1000000/\∀p∈k.eqs,ω p)/\k.δ.length<=1000000/\∀p∈k.δ,ω p:=
 ⟨⟨by have:=h.eqs.len;omega,λp hp=>(h.eqs.hZ p hp).1⟩,by have:=h.δ.len;omega,λp hp=>(h.δ.hZ p hp).1⟩
theorem Zx1:kT ç gV:=kT.both (kT.both (U0 _ _) (Sc.of _ λa h=>h.code.1)) (Sc.of _ λa h=>h.code.2)
def l9(l:Ŀ Int):Prop:=∀n∈l,0<=n/\n<256
theorem l9.append{a b:Ŀ Int}(h:l9 a)(k:l9 b):l9 (a++b):=λn c=>(Ĩ.1 c).elim (h n) (k n)
theorem HL(n:Int):0<=u8.wrap n/\u8.wrap n<256:=by rw[HM];omega
theorem tY:∀(f:Nat) (n:Int),l9 (iF f n)
 |0,n=>λm a=>by rw[Ĕ.1 a];exact HL _
 |f+1,n=>λm a=>by
  unfold iF at a;split at a
  .rcases Ď.1 a with rfl|a
   .exact HL _
   exact tY f _ m a
  rw[Ĕ.1 a];exact HL _
theorem FP{α:Type}{w:α->Ŀ Int}(h:∀a,l9 (w a))(l:Ŀ α):l9 (l.flatMap w):=λn c=>by obtain⟨a,_,h2⟩:=List.mem_flatMap.1 c;exact h a n h2
theorem ZxE(d:Int):l9 (fE d):=λn a=>by
 simp only[fE,Ď,ĝ,ţ]at a;rcases a with rfl|rfl|rfl|rfl<;>exact HL _
theorem To(a:Zg):l9 (lj a):=(tY _ _).append (FP ZxE _)
theorem S7(m:Fin 8->Int):∀k,l9 (iE m k)
 |0=>λ_ h=>by cases h
 |k+1=>(S7 m k).append (tY _ _)
theorem Zxw(t:Za):l9 (fU t):=((To _).append (To _)).append (S7 _ 8)
theorem Sb(p:Ù):l9 (fD p):=(tY _ _).append (FP Zxw _)
theorem RZ(l:Ŀ Ù):l9 (fQ l):=(tY _ _).append (FP Sb _)
theorem Sz(k:Zb):l9 (gV k):=((tY _ _).append (RZ _)).append (RZ _)
theorem Zu8(l:Ŀ Int):∀r:Ĳ,(l.foldl (λr n=>r.push (UInt8.ofNat n.toNat)) r).data.toList=r.data.toList++l.map λn=>UInt8.ofNat n.toNat:=by
 induction l with
 |nil=>intro r;simp
 |cons n l a=>
  intro r;rw[List.foldl_cons,a];simp[ByteArray.push]
theorem AF(l:Ŀ Int):(bytesOf l).data.toList=l.map λn=>UInt8.ofNat n.toNat:=by unfold bytesOf;rw[Zu8];rfl
theorem Ut:∀{l m:Ŀ Int},l9 l->l9 m->(l.map λn=>UInt8.ofNat n.toNat)=(m.map λn=>UInt8.ofNat n.toNat)->l=m
 |[],[],_,_,_=>rfl
 |[],_::_,_,_,h=>by cases h
 |_::_,[],_,_,h=>by cases h
 |a::l,b::m,d,h2,h=>by rw[Ġ,Ġ,ŏ]at h;have e:=đ UInt8.toNat h.1;rw[UInt8.toNat_ofNat',UInt8.toNat_ofNat']at e;have f:=d a ß;have k2:=h2 b ß;rw[Ut (λn c=>d n (by simp[c])) (λn c=>h2 n (by simp[c])) h.2];congr 1;omega
theorem Ztt{l m:Ŀ Int}(a:l9 l)(h2:l9 m)(h:bytesOf l=bytesOf m):l=m:=by refine Ut a h2 ?_;rw[<-AF,<-AF,h]
theorem Zv9{a b:Ĳ}(h:a.data.toList=b.data.toList):a=b:=by cases a;cases b;have h:=ż h;dsimp only at h;rw[h]
theorem JD(l m:Ŀ Int):bytesOf l++bytesOf m=bytesOf (l++m):=by refine Zv9 ?_;rw[AF,Ī,<-AF,<-AF];simp
end Go.EL

namespace Go.EL
open Go.IntKind (i8 i16 i32 i64 u8 u16 u32 u64)
open Go Go.RowKit
def C0(p:Ù):Bool:=decide (p.Pairwise λx y=>0<Û x.m y.m)&&p.all (λt=>fo t.c&&decide (∀i,0<=t.m i/\t.m i<=65535))&&decide (p.length<=100)
theorem ω.of{p:Ù}(h:C0 p=true):ω p:=by unfold C0 at h;simp only[ĉ,Ę,Ć]at h;obtain⟨⟨c,h2⟩,h3⟩:=h;refine⟨c,λt a=>⟨?_,(h2 t a).2⟩,h3⟩;obtain⟨n,e,d,f,g⟩:=tX (h2 t a).1;exact⟨n,e,d,f,g⟩
end Go.EL

namespace Go.EL
open Go.IntKind (i8 i16 i32 i64 u8 u16 u32 u64)
open Go Go.RowKit
theorem U8{c:Cq Bool}{P:Prop}(h:c.wp λb=>(b=true↔P)):(P/\c.Α true)\/(¬P/\c.Α false):=by
 by_cases hp:P
 .exact .inl ⟨hp,c.mono (λb a=>a.2 hp) h⟩
 exact .inr ⟨hp,c.mono (λb a=>by cases b with
  |true=>exact absurd (a.1 rfl) hp
  |false=>rfl) h⟩
structure vb (n:Nat) (next:Int) (l:Ŀ Zo) (k:Nat):Prop where
 ids:∀i (h:i<l.length),i<k->1<=l[i].id/\l[i].id<next
 inc:∀i (h:i+1<l.length),i+1<k->l[i].id<l[i+1].id
 hZ:∀i (h:i<l.length),i<k->ω l[i].p/\Ð l[i].p (n:Int)=true
theorem vb.zero(n:Nat)(next:Int)(l:Ŀ Zo):vb n next l 0:=⟨λ_ _ h=>absurd h (ı _),λ_ _ h=>absurd h (ı _),λ_ _ h=>absurd h (ı _)⟩
end Go.EL

namespace Go.EL
open Go.IntKind (i8 i16 i32 i64 u8 u16 u32 u64)
open Go Go.RowKit
end Go.EL

namespace Go.EL
open Go.IntKind (i8 i16 i32 i64 u8 u16 u32 u64)
open Go Go.RowKit
theorem U1(n:Nat)(next:Int):ig n next []:=⟨ß,λq a=>absurd a ĝ,List.Pairwise.nil,λq a=>absurd a ĝ⟩
end Go.EL

namespace Go.EL
open Go.IntKind (i8 i16 i32 i64 u8 u16 u32 u64)
open Go Go.RowKit
structure ij (x:ZA):Prop where
 n:0<=x.n/\x.n<=255
 l:∀y∈x.l,iZ y
 iQ:∀g∈x.iQ,0<=g/\g<=255
theorem Ls{y:Zu}(h:iZ y){n:Nat}(e:n<=4){d:Int}(d0:0<=d)(d12:d<=12){k:Nat}(f:k<=4):ω (iD y n d k)/\Ð (iD y n d k) (n:Int)=true:=by
 have a:=Zye h e d0 k;refine⟨a.hZ ŉ ŉ ŉ,(pr ŉ).2 ⟨λt c i hi=>?_,λt c=>?_⟩⟩
 .have:=(a.xV t c).2.1 i hi;omega
 have:=(a.xV t c).2.2;omega
theorem ig.XD{n:Nat}{next a:Int}{l:Ŀ Zo}(h:ig n next l)(h2:next<=a):ig n a l:=⟨h.len,λq c=>⟨(h.ids q c).1,Œ (h.ids q c).2 h2⟩,h.inc,h.hZ⟩
theorem ig.snoc{n:Nat}{next:Int}{l:Ŀ Zo}(h:ig n next l)(g:l.length<12){i:Int}{p:Ù}(hp:ω p/\Ð p (n:Int)=true)(f:1<=next)(hi:next<=i):ig n (i+1) (l++[⟨i,p⟩]) where
 len:=by rw[Ā,ė];omega
 ids:=λq c=>by
  rcases Ĩ.1 c with c|c
  .have:=h.ids q c;omega
  rw[Ĕ]at c;subst c;show 1<=i/\i<i+1;omega
 inc:=by rw[eu];refine⟨h.inc,ū _ _,λa e b d=>?_⟩;rw[Ĕ]at d;subst d;have:=h.ids a e;show a.id<i;omega
 hZ:=λq c=>by
  rcases Ĩ.1 c with c|c
  .exact h.hZ q c
  rw[Ĕ]at c;subst c;exact hp
def eK(x:ZA)(k:Nat):Int:=if 0<x.iQ.length then Int.tmod (x.iQ.getD (k % x.iQ.length) 0) 4 else 0
def ñ(x:ZA)(n:Nat):Nat->Ŀ Zo×Ŀ Zo×Int
 |0=>([],[],1)
 |k+1=>
  if k % 3=2 then((ñ x n k).1,(ñ x n k).2.1++[⟨(ñ x n k).2.2+eK x k,iD (x.l.getD k ⟨[]⟩) n 2 3⟩],(ñ x n k).2.2+eK x k+1)
  else((ñ x n k).1++[⟨(ñ x n k).2.2+eK x k,iD (x.l.getD k ⟨[]⟩) n 2 3⟩],(ñ x n k).2.1,(ñ x n k).2.2+eK x k+1)
theorem ZtA(x:ZA)(n k:Nat):ñ x n (k+1) =
  if k % 3=2 then((ñ x n k).1,(ñ x n k).2.1++[⟨(ñ x n k).2.2+eK x k,iD (x.l.getD k ⟨[]⟩) n 2 3⟩],(ñ x n k).2.2+eK x k+1)
  else((ñ x n k).1++[⟨(ñ x n k).2.2+eK x k,iD (x.l.getD k ⟨[]⟩) n 2 3⟩],(ñ x n k).2.1,(ñ x n k).2.2+eK x k+1):=rfl
theorem Vm{x:ZA}(h:ij x)(k:Nat):0<=eK x k/\eK x k<=3:=by
 unfold eK;split
 .rename_i hp;have a:k % x.iQ.length<x.iQ.length:=x8 _ hp;have c:=h.iQ (x.iQ[k % x.iQ.length]) (Ă a);rw[Ģ,Ą a,ŗ];have:=Bf c.1 (show(0:Int)<4 by decide);omega
 omega
structure z7 (n:Nat) (k:Nat) (s:Ŀ Zo×Ŀ Zo×Int):Prop where
 next:1<=s.2.2/\s.2.2<=1+4*k
 eqs:ig n s.2.2 s.1
 δ:ig n s.2.2 s.2.1
 apart:∀a∈s.1,∀b∈s.2.1,a.id≠b.id
 len:s.1.length+s.2.1.length<=k
theorem ZyB{x:ZA}(h:ij x)(k:Nat):iZ (x.l.getD k ⟨[]⟩):=by
 rw[Ģ];cases a:x.l[k]? with
 |none=>exact λv c=>by cases c
 |some y=>exact h.l y (ń a)
theorem KQ{x:ZA}(h:ij x){n:Nat}(j:n<=4):∀k,k<=6->z7 n k (ñ x n k)
 |0,_=>⟨⟨Ŝ 1,(by decide:(1:Int)<=1+4*0)⟩,U1 _ _,U1 _ _,λa c=>absurd c ĝ,Ĉ 0⟩
 |k+1,q=>by
  have f:=KQ h j k ŉ;obtain⟨m,p⟩:=Vm h k;have hp:=Ls (ZyB h k) j (d:=2) ĳ ĳ (k:=3) ĳ;have l:=f.next;have r:=f.len;unfold ñ;generalize ñ x n k=s at *;obtain⟨e,i,nx⟩:=s;dsimp only at *;by_cases h3:k % 3=2
  .rw[ą h3];refine⟨⟨by show 1<=nx+eK x k+1;omega,by show nx+eK x k+1<=_;omega⟩,f.eqs.XD (by show nx<=nx+eK x k+1;omega),f.δ.snoc (by show i.length<12;omega) hp (by show 1<=nx;omega) (by show nx<=nx+eK x k;omega),λa c b g=>?_,by show e.length+(i++[_]).length<=k+1;rw[Ā,ė];omega⟩;rcases Ĩ.1 g with g|g
   .exact f.apart a c b g
   rw[Ĕ]at g;subst g;have:=(f.eqs.ids a c).2;show a.id≠nx+eK x k;dsimp only at this;omega
  rw[ā h3];refine⟨⟨by show 1<=nx+eK x k+1;omega,by show nx+eK x k+1<=_;omega⟩,f.eqs.snoc (by show e.length<12;omega) hp (by show 1<=nx;omega) (by show nx<=nx+eK x k;omega),f.δ.XD (by show nx<=nx+eK x k+1;omega),λa c b g=>?_,by show(e++[_]).length+i.length<=k+1;rw[Ā,ė];omega⟩;rcases Ĩ.1 c with c|c
  .exact f.apart a c b g
  rw[Ĕ]at c;subst c;have:=(f.δ.ids b g).2;show nx+eK x k≠b.id;dsimp only at this;omega
def gk:Ŀ Ĳ:=[Ay,Ax,Aw]
theorem Zvt:(gk.all je&&decide (gk.Pairwise λa b=>a≠b))=true:=by decide +kernel
def jl(x:ZA):Nat:=x.n.toNat % 4
def iU(x:ZA):Zx:=⟨gk.take (jl x),(ñ x (jl x) (min x.l.length 6)).1,(ñ x (jl x) (min x.l.length 6)).2.1,(ñ x (jl x) (min x.l.length 6)).2.2⟩
theorem Bi(x:ZA):jl x<4:=x8 _ ĳ
theorem Fi(x:ZA):(gk.take (jl x)).length=jl x:=by have:=Bi x;rw[č];show min _ 3=_;omega
theorem Zvp{x:ZA}(h:ij x):Good (iU x)/\(iU x).eqs.length+(iU x).δ.length<=6:=by
 have f:=Bi x;have hi:=KQ h (n:=jl x) ŉ (min x.l.length 6) ŉ;have a:=Zvt;simp only[ĉ,Ć,Ę]at a;have e:=hi.len;have d:=hi.next;refine⟨⟨by show(gk.take _).length<=4;rw[Fi];omega,λv c=>a.1 v (ś c),a.2.sublist (List.take_sublist _ _),⟨d.1,?_⟩,?_,?_,hi.apart⟩,?_⟩
 .show (ñ x (jl x) (min x.l.length 6)).2.2<=1000000;omega
 .show ig (gk.take _).length _ _;rw[Fi];exact hi.eqs
 .show ig (gk.take _).length _ _;rw[Fi];exact hi.δ
 show(ñ x (jl x) (min x.l.length 6)).1.length+(ñ x (jl x) (min x.l.length 6)).2.1.length<=6;omega
theorem tg{x:ZA}(h:ij x):i64.wrap (Int.tmod x.n 4)=((jl x:Nat):Int):=by
 obtain⟨a,c⟩:=h.n;have e:Int.tmod x.n 4=((jl x:Nat):Int):=by rw[Ŕ a];unfold jl;omega
 have:=Bi x;rw[e,wrap64 ŉ]
theorem ZuL{x:ZA}(h:ij x):(FL x).Α (iU x):=by
 have C:=Bi x;unfold FL;rw[tg h];refine⟨⟨Ŝ 0,ŉ,by show((jl x:Nat):Int)<=3;omega⟩,?_⟩;have g:∀s:Ŀ Zo×Ŀ Zo×Int,s=ñ x (jl x) (min x.l.length 6)->(J7 ((gk.take ((jl x:Nat):Int).toNat).drop (0:Int).toNat) s.1 s.2.1 s.2.2).Α (iU x):=λs m=>by subst m;show _=_;rw[Ē];rfl
 refine Cq.Zn (min x.l.length 6) (λk s=>s=((k:Int),(gk.take ((jl x:Nat):Int).toNat).drop (0:Int).toNat,(ñ x (jl x) k).1,(ñ x (jl x) k).2.1,(ñ x (jl x) k).2.2)) (λk s B m=>?_) (λs m=>?_) rfl
 .subst m;have hi:=KQ h (n:=jl x) ŉ k ŉ;have i:k<x.l.length:=ŉ;have D:=hi.next;have v:=hi.len;obtain⟨y,A⟩:=Vm h k;refine Cq.wp.yes ŉ (Cq.wp.yes ŉ ?_);have key:(EG x (k:Int) ((gk.take ((jl x:Nat):Int).toNat).drop (0:Int).toNat) (ñ x (jl x) k).1 (ñ x (jl x) k).2.1 (ñ x (jl x) k).2.2 (eK x k)).wp (Out (λs=>s=(((k+1:Nat):Int),(gk.take ((jl x:Nat):Int).toNat).drop (0:Int).toNat,(ñ x (jl x) (k+1)).1,(ñ x (jl x) (k+1)).2.1,(ñ x (jl x) (k+1)).2.2)) λo=>(match o with|(e,f,c,d)=>J7 e f c d).wp λa=>a=iU x):=by
   refine⟨_,Μ i,iD x.l[k] (jl x) 2 3,?_,?_⟩
   .rw[tg h];exact Lt (h.l _ (Ă i)) ŉ ĳ ĳ (k:=3) ĳ
   have t:x.l.getD k ⟨[]⟩=x.l[k]:=by rw[Ģ,Ą i];rfl
   have u:i64.wrap ((ñ x (jl x) k).2.2+eK x k)=(ñ x (jl x) k).2.2+eK x k:=wrap64 ŉ;have j:i64.wrap ((ñ x (jl x) k).2.2+eK x k+1)=(ñ x (jl x) k).2.2+eK x k+1:=wrap64 ŉ;have p:Int.tmod (k:Int) 3=((k % 3:Nat):Int):=by rw[Ŕ ŉ];omega
   rw[ZtA];by_cases h3:k % 3=2
   .rw[ą h3];refine Cq.wp.yes (by rw[p];omega) ⟨?_,?_⟩
    .rw[Ā,ė];simp only[small];omega
    show _=_;rw[ψ ŉ,u,j,t]
   rw[ā h3];refine Cq.wp.no (by rw[p];omega) ⟨?_,?_⟩
   .rw[Ā,ė];simp only[small];omega
   show _=_;rw[ψ ŉ,u,j,t]
  show(EH x (k:Int) _ _ _ _).wp _;unfold EH;by_cases r:0<x.iQ.length
  .have l:k % x.iQ.length<x.iQ.length:=x8 _ r;have p:Int.tmod (k:Int) (x.iQ.length:Int)=((k % x.iQ.length:Nat):Int):=by rw[Ŕ ŉ];rfl
   refine Cq.wp.yes ŉ ⟨ŉ,?_⟩;rw[p];refine⟨_,Μ l,?_⟩;have q:eK x k=Int.tmod x.iQ[k % x.iQ.length] 4:=by unfold eK;rw[ą r,Ģ,Ą l,ŗ]
   dsimp only;rw[<-q,wrap64 ŉ];exact key
  have q:eK x k=0:=ā r;refine Cq.wp.no ŉ ?_;rw[q]at key;exact key
 subst m;by_cases v:x.l.length<=6
 .refine Cq.wp.no ŉ ?_;exact g _ rfl
 refine Cq.wp.yes ŉ (Cq.wp.no ŉ ?_);exact g _ rfl
end Go.EL

namespace Go.EL
open Go.IntKind (i8 i16 i32 i64 u8 u16 u32 u64)
open Go Go.RowKit
structure jK (k:Zb):Prop where
 n:0<=k.n/\k.n<=1000
 eqs:∀p∈k.eqs,ω p
 δ:∀p∈k.δ,ω p
 len:k.eqs.length<=12/\k.δ.length<=12
theorem jK.zero:jK iI:=⟨ĳ,λp hp=>absurd hp ĝ,λp hp=>absurd hp ĝ,ĳ⟩
theorem ç.qV{k:Zb}(h:ç k):jK k:=⟨by have:=h.n;omega,λp hp=>(h.eqs.hZ p hp).1,λp hp=>(h.δ.hZ p hp).1,h.eqs.len,h.δ.len⟩
theorem jK.core{k:Zb}(h:jK k):(vk [] k).Α (gV k):=SU h.n h.eqs h.δ h.len.1 h.len.2
theorem Zvu{n:Int}{eqs δ:Ŀ Ù}(f:∀p∈eqs,ω p)(hi:∀p∈δ,ω p):jK (im n eqs δ).1/\((im n eqs δ).2=0->ç (im n eqs δ).1):=by
 unfold im;by_cases c:1<=n/\n<=4
 .rw[ą c];by_cases a:(eqs++δ).all (λp=>Ð p n)=true
  .rw[ą a];by_cases d:12<(ep (hN eqs δ)).length
   .rw[ą d];exact⟨jK.zero,λh=>absurd h ĳ⟩
   rw[ā d];by_cases h2:12<(ep (kept δ true)).length
   .rw[ą h2];exact⟨jK.zero,λh=>absurd h ĳ⟩
   rw[ā h2];obtain⟨m,rfl,g,i⟩:=vC c;rw[List.all_append,ĉ]at a;have e:=Uz ⟨g,i⟩ (λp hp=>⟨f p hp,Ć.1 a.1 p hp⟩) (λp hp=>⟨hi p hp,Ć.1 a.2 p hp⟩) ŉ ŉ;exact⟨e.qV,λ_=>e⟩
  rw[ā a];exact⟨jK.zero,λh=>absurd h ĳ⟩
 rw[ā c];exact⟨jK.zero,λh=>absurd h ĳ⟩
theorem SP{l:Ŀ Zo}(d:l.length<=1000):(Fz l).Α (l.map (·.p)):=by
 refine Cq.Zn l.length (λk s=>s=((l.take k).map (·.p),(k:Int))) (λk s c a=>?_) (λs a=>?_) rfl
 .subst a;refine Cq.wp.yes ŉ ⟨_,Μ c,?_,?_⟩
  .simp only[Ā,ć,č,ė,small];omega
  show _=_;rw[ψ ŉ,ċ c,Ī];rfl
 subst a;refine Cq.wp.no ŉ ?_;rw[ě (Ĉ _)];exact rfl
def pe(s:Zx):Int:=if 1<(s.vars.length:Int)then(s.vars.length:Int)else 1
def mR(s:Zx):Zb×Int:=im (pe s) (s.eqs.map (·.p)) (s.δ.map (·.p))
theorem Good.wi{s:Zx}(h:Good s):(∀p∈s.eqs.map (·.p),ω p)/\∀p∈s.δ.map (·.p),ω p:=
 ⟨λp hp=>by obtain⟨q,a,rfl⟩:=Ğ.1 hp;exact(h.eqs.hZ q a).1,λp hp=>by obtain⟨q,a,rfl⟩:=Ğ.1 hp;exact(h.δ.hZ q a).1⟩
theorem ZuY{s:Zx}(h:Good s):(Lx s).Α (mR s):=by have a:=h.eqs.len;have c:=h.δ.len;obtain⟨p1,p2⟩:=h.wi;exact⟨true,Zpy h,Cq.wp.no ĳ ⟨_,SP ŉ,_,SP ŉ,_,Q0 (by rw[ć];omega) (by rw[ć];omega) p1 p2,rfl⟩⟩
theorem Vl{p:Ù}{n m:Nat}(e:n<=m)(c:m<=8)(h:Ð p (n:Int)=true):Ð p (m:Int)=true:=by obtain⟨a,h2⟩:=(pr ŉ).1 h;exact(pr c).2 ⟨λt d i hi=>a t d i ŉ,h2⟩
theorem Zx0{s:Zx}(h:Good s)(i:s.eqs.length+s.δ.length<=12):mR s=(⟨pe s,ep (hN (s.eqs.map (·.p)) (s.δ.map (·.p))),ep (kept (s.δ.map (·.p)) true)⟩,0)/\ç (mR s).1:=by
 have j:=h.vars;obtain⟨m,f,k,l,mv⟩:∃m:Nat,pe s=(m:Int)/\1<=m/\m<=4/\s.vars.length<=m:=by
  unfold pe;by_cases c:1<(s.vars.length:Int)
  .rw[ą c];exact⟨_,rfl,ŉ,ŉ,Ĉ _⟩
  rw[ā c];exact⟨1,rfl,ŉ,ŉ,ŉ⟩
 have d:(s.eqs.map (·.p)++s.δ.map (·.p)).all (λp=>Ð p (m:Int))=true:=Ć.2 λp hp=>by
  rcases Ĩ.1 hp with hp|hp
  .obtain⟨q,a,rfl⟩:=Ğ.1 hp;exact Vl mv ŉ (h.eqs.hZ q a).2
  obtain⟨q,a,rfl⟩:=Ğ.1 hp;exact Vl mv ŉ (h.δ.hZ q a).2
 have n:=Gd (hN (s.eqs.map (·.p)) (s.δ.map (·.p)));have g:=TN (s.eqs.map (·.p)) (s.δ.map (·.p));have r:=Gd (kept (s.δ.map (·.p)) true);have q4:=vu (s.δ.map (·.p)) true;rw[ć,ć]at g;rw[ć]at q4;have e:mR s=(⟨pe s,ep (hN (s.eqs.map (·.p)) (s.δ.map (·.p))),ep (kept (s.δ.map (·.p)) true)⟩,0):=by unfold mR im;rw[f,ą ⟨ŉ,ŉ⟩,ą d,ā ŉ,ā ŉ]
 obtain⟨p1,p2⟩:=h.wi;exact⟨e,(Zvu p1 p2).2 (by show(mR s).2=0;rw[e])⟩
theorem Zz3{n:Nat}(h:1<=n/\n<=4):gD n λi=>(i.val:Int):=oe h (by rw[vq];exact aap)
theorem Zu9{k:Zb}(h:ç k):ç (â k).1:=by
 have hp:=lR h;have c:1<=k.n.toNat/\k.n.toNat<=4:=by have:=h.n;omega
 unfold â;rw[vq]at hp;exact L4 h (λx a=>hp x (by simp[a])) (lQ h (hp _ ß)).core
end Go.EL

namespace Go.EL
open Go.IntKind (i8 i16 i32 i64 u8 u16 u32 u64)
open Go Go.RowKit
abbrev Ord:=Ŀ (Fin 8->Int)
theorem Ta{n:Int}(h:n<0):kx n=fw (u64.wrap (u64.wrap (2*u64.wrap (i64.wrap (0-i64.wrap (n+1))))+1)):=ā ŉ
theorem Tb{n:Int}(h:¬n<0):kx n=lq n:=ą ŉ
theorem Q1{b:Ŀ Int}(n:Int)(a:b.length<=900000):(AB b n).Α (b++kx n):=by
 by_cases h:n<0
 .refine Cq.wp.yes h ⟨_,vt (pc _) a,?_⟩;show _=_;rw[Ta h,aaC]
 refine Cq.wp.no h ⟨_,vt (pc _) a,?_⟩;show _=_;rw[Tb h,aaC];rfl
theorem LP(n:Int):(kx n).length<=11:=by
 by_cases h:n<0
 .rw[Ta h];exact q0 _
 rw[Tb h];exact FT _
theorem FW(m:Fin 8->Int):∀k,(fW m k).length<=11*k
 |0=>Ĉ _
 |k+1=>by have a:=FW m k;have h2:=LP (Ε m (k:Int));show(fW m k++kx _).length<=_;rw[Ā];omega
theorem Zu0{b:Ŀ Int}{o:Ord}(q:o.length<=40)(n:b.length<=600000):(K7 b o).Α (b++jz o):=by
 refine⟨_,vt (pc _) ŉ,?_⟩;unfold jz;have r:=q0 (u64.wrap (o.length:Int));generalize fw (u64.wrap (o.length:Int))=N at *;show(Cq.next _ _).wp _;refine Cq.Zn o.length (λk st=>st=(b++N++(o.take k).flatMap λm=>fW m 8,(k:Int))) (λk st d a=>?_) (λst a=>?_) (by show _=_;simp)
 .subst a;have g:=tW (K:=88) (l:=o.take k) (f:=λm=>fW m 8) (λx _=>FW x 8);rw[č]at g;have h:88*min k o.length<=3520:=ŉ;refine Cq.wp.yes ŉ ?_;show(Cq.next _ _).wp _;generalize c:(b++N++(o.take k).flatMap λm=>fW m 8)=B;have e:B.length<=650000:=by rw[<-c];simp only[Ā];omega
  refine Cq.Zn 8 (λj st=>st=(B++fW o[k] j,(j:Int))) (λj st p a=>?_) (λst a=>?_) (by show _=_;simp[fW])
  .subst a;have i:=FW o[k] j;refine Cq.wp.yes ŉ ⟨_,Μ d,⟨ŉ,ŉ⟩,_,Q1 _ (by rw[Ā];omega),?_⟩;show _=_;rw[ψ ŉ,Đ];rfl
  subst a;refine Cq.wp.no ĳ ?_;show _=_;rw[ψ ŉ,Ff (λm=>fW m 8) o d,<-c];simp only[Đ]
 subst a;refine Cq.wp.no ŉ ?_;rw[ě (Ĉ _)];show _=_;rw[Đ]
structure rH (q:Zc):Prop where
 p:ω q.p
 o:q.o.length<=40
theorem Zvw{o:Ord}(h:o.length<=40):(jz o).length<=4000:=by unfold jz;have a:=q0 (u64.wrap (o.length:Int));have h2:=tW (K:=88) (l:=o) (f:=λm=>fW m 8) (λx _=>FW x 8);rw[Ā];have h3:88*o.length<=3520:=ŉ;omega
theorem LC{q:Zc}(h:rH q):(oG q).length<=20000:=by unfold oG;have a:=LP q.kind;have h2:=Fj h.p;have h3:=Zvw h.o;rw[Ā,Ā];omega
def hL(q:Zc):Ĳ:=bytesOf (oG q)
theorem Ty{q:Zc}(h:rH q):(F5 q).Α (hL q):=by have a:=LP q.kind;have h2:=Fj h.p;exact⟨_,Q1 (b:=[]) q.kind ĳ,_,SX h.p (by rw[ļ];omega),_,Zu0 h.o (by rw[ļ,Ā];omega),rfl⟩
theorem Ma{q:Zc}(h:rH q):(AQ q).Α (hL q):=⟨by have:=LC h;omega,rfl⟩
theorem Sl{a b:Zc}(c:rH a)(d:rH b):(DW a b).Α (decide (hL a=hL b)):=⟨_,Ty c,_,Ty d,rfl⟩
theorem KU{a b:Zb}(c:jK a)(d:jK b):(Au a b).Α (decide (þ a=þ b)):=⟨_,c.core,_,d.core,rfl⟩
theorem T2(m:Fin 8->Int):∀k,l9 (fW m k)
 |0=>λ_ h=>by cases h
 |k+1=>(T2 m k).append (by unfold kx;split<;>exact tY _ _)
theorem Zyi(n:Int):l9 (kx n):=by unfold kx;split<;>exact tY _ _
theorem TE(q:Zc):l9 (oG q):=((Zyi _).append (Sb _)).append ((tY _ _).append (FP (λm=>T2 m 8) _))
def gO(k:Zb)(q:Zc):Ĳ:=þ k++hL q
theorem Vn{k m:Zb}{p q:Zc}(c:ç k)(d:ç m)(h:gO k p=gO m q):þ k=þ m/\hL p=hL q:=by unfold gO þ hL at h;rw[JD,JD]at h;obtain⟨a,h2⟩:=Zx1 k m _ _ c d (Ztt ((Sz k).append (TE p)) ((Sz m).append (TE q)) h);exact⟨by unfold þ;rw[a],by unfold hL;rw[h2]⟩
theorem JN(l:Ŀ Int):(bytesOf l).size=l.length:=RH l
theorem TI{k:Zb}(h:ç k):(gV k).length<=400000:=by have a:=AH (λp hp=>(h.eqs.hZ p hp).1) h.eqs.len;have h2:=AH (λp hp=>(h.δ.hZ p hp).1) h.δ.len;have h3:=q0 (u64.wrap (2*u64.wrap k.n));have c:=FT k.n;unfold gV;simp only[Ā];omega
theorem yZ{k:Zb}{q:Zc}(a:ç k)(c:rH q):(tz k q).Α (gO k q):=by have d:=TI a;have h2:=LC c;exact⟨_,y4 a,_,Ma c,by unfold þ hL;rw[JN,JN];omega,rfl⟩
theorem yU{k:Zb}{q:Zc}(a:ç k)(c:rH q):(gO k q).size<=1000000:=by have d:=TI a;have h2:=LC c;unfold gO þ hL;rw[JD,JN,Ā];omega
def ò(kind:Int):Ŀ Zc:=if kind=5\/kind=8 then[⟨4,[],[]⟩]else if kind=6\/kind=10 then[⟨5,[],[]⟩]else if kind=7 then[⟨6,[],[]⟩]else[]
theorem AK(q:Zc):(wQ q).Α (ò q.kind)/\(Fy q).Α (ò q.kind):=by
 unfold ò;by_cases a:q.kind=5
 .rw[ą (Or.inl a)];exact⟨Cq.wp.yes a (Cq.wp.yes (ă a) rfl),Cq.wp.yes a (Cq.wp.yes (ă a) rfl)⟩
 by_cases g:q.kind=8
 .rw[ą (Or.inr g)];exact⟨Cq.wp.no a (Cq.wp.yes (ă g) rfl),Cq.wp.no a (Cq.wp.yes (ă g) rfl)⟩
 rw[ā ŉ];have f:¬(decide (q.kind=8))=true:=by simpa using g
 by_cases c:q.kind=6
 .rw[ą (Or.inl c)];exact⟨Cq.wp.no a (Cq.wp.no f (Cq.wp.yes c (Cq.wp.yes (ă c) rfl))),Cq.wp.no a (Cq.wp.no f (Cq.wp.yes c (Cq.wp.yes (ă c) rfl)))⟩
 by_cases e:q.kind=10
 .rw[ą (Or.inr e)];exact⟨Cq.wp.no a (Cq.wp.no f (Cq.wp.no c (Cq.wp.yes (ă e) rfl))),Cq.wp.no a (Cq.wp.no f (Cq.wp.no c (Cq.wp.yes (ă e) rfl)))⟩
 rw[ā ŉ];have d:¬(decide (q.kind=10))=true:=by simpa using e
 by_cases h7:q.kind=7
 .rw[ą h7];exact⟨Cq.wp.no a (Cq.wp.no f (Cq.wp.no c (Cq.wp.no d (Cq.wp.yes h7 rfl)))),Cq.wp.no a (Cq.wp.no f (Cq.wp.no c (Cq.wp.no d (Cq.wp.yes h7 rfl))))⟩
 rw[ā h7];exact⟨Cq.wp.no a (Cq.wp.no f (Cq.wp.no c (Cq.wp.no d (Cq.wp.no h7 rfl)))),Cq.wp.no a (Cq.wp.no f (Cq.wp.no c (Cq.wp.no d (Cq.wp.no h7 rfl))))⟩
end Go.EL

namespace Go.EL
open Go.IntKind (i8 i16 i32 i64 u8 u16 u32 u64)
open Go Go.RowKit
theorem KJ:∀{a b c:Ŀ UInt8},Op.bytesLess a b=true->Op.bytesLess b c=true->Op.bytesLess a c=true
 |[],_::_,_::_,_,_=>rfl
 |[],[],_,h,_=>by cases h
 |_::_,[],_,h,_=>by cases h
 |[],_::_,[],_,h=>by cases h
 |_::_,_::_,[],_,h=>by cases h
 |x::a,y::b,z::c,d,h2=>by
  simp only[Op.bytesLess,Ĵ,ĉ,Ę,aa7]at d h2⊢;rcases d with d|⟨rfl,d⟩
  .rcases h2 with h2|⟨rfl,h2⟩
   .exact .inl (UInt8.lt_trans d h2)
   exact .inl d
  rcases h2 with h2|⟨rfl,h2⟩
  .exact .inl h2
  exact .inr ⟨rfl,KJ d h2⟩
theorem Rs:∀{a b:Ŀ UInt8},¬Op.bytesLess a b=true->¬Op.bytesLess b a=true->a=b
 |[],[],_,_=>rfl
 |[],_::_,h,_=>absurd rfl h
 |_::_,[],_,h=>absurd rfl h
 |x::a,y::b,c,h2=>by simp only[Op.bytesLess,Ĵ,ĉ,Ę,aa7,not_or,not_and]at c h2;have e:x=y:=UInt8.le_antisymm (UInt8.not_lt.1 h2.1) (UInt8.not_lt.1 c.1);subst e;rw[Rs (c.2 rfl) (h2.2 rfl)]
theorem Rk:∀a:Ŀ UInt8,¬Op.bytesLess a a=true
 |[],h=>by cases h
 |x::a,h=>by
  simp only[Op.bytesLess,Ĵ,ĉ,Ę,aa7]at h;rcases h with h|⟨_,h⟩
  .exact UInt8.lt_irrefl x h
  exact Rk a h
def gU(σ τ:M):M:=λi=>Ε σ (τ i)
def pH(l:Ŀ M)(τ:M):Bool:=l.all (λσ=>l.any λρ=>decide (gU σ τ=ρ))&&l.all λρ=>l.any λσ=>decide (gU σ τ=ρ)
def kJ(n:Nat):Bool:=(Β n).all (pH (Β n))
theorem Zvb(n:Nat):kJ n=(Β n).all (pH (Β n)):=rfl
def qn(π:M):Bool:=decide (∀j:Fin 8,∃i:Fin 8,π i=(j.val:Int))
theorem Zwe:(kJ 1&&kJ 2&&kJ 3&&kJ 4)=true:=by decide +kernel
theorem ZyM:((Β 1).all qn&&(Β 2).all qn&&(Β 3).all qn&&(Β 4).all qn)=true:=by decide +kernel
theorem mQ{n:Nat}(h:1<=n/\n<=4){τ:M}(f:τ∈Β n):(∀σ∈Β n,gU σ τ∈Β n)/\∀ρ∈Β n,∃σ∈Β n,gU σ τ=ρ:=by
 have key:kJ n=true:=by
  have:=Zwe;simp only[ĉ]at this;obtain⟨⟨⟨a,h2⟩,h3⟩,g⟩:=this;have i:n=1\/n=2\/n=3\/n=4:=ŉ;rcases i with rfl|rfl|rfl|rfl
  .exact a
  .exact h2
  .exact h3
  exact g
 rw[Zvb]at key;generalize Β n=l at *;have c:pH l τ=true:=Ć.1 key τ f;unfold pH at c;rw[ĉ,Ć,Ć]at c;refine⟨λσ e=>?_,λρ d=>?_⟩
 .obtain⟨ρ,a,h2⟩:=Ű.1 (c.1 σ e);rw[ĥ h2];exact a
 obtain⟨σ,a,h2⟩:=Ű.1 (c.2 ρ d);exact⟨σ,a,ĥ h2⟩
theorem Dd{n:Nat}(h:1<=n/\n<=4){π:M}(a:π∈Β n)(j:Fin 8):∃i:Fin 8,π i=(j.val:Int):=by
 have:=ZyM;simp only[ĉ,Ć]at this;obtain⟨⟨⟨c,h2⟩,h3⟩,d⟩:=this;have e:n=1\/n=2\/n=3\/n=4:=ŉ;rcases e with rfl|rfl|rfl|rfl
 .exact ĥ (c π a) j
 .exact ĥ (h2 π a) j
 .exact ĥ (h3 π a) j
 exact ĥ (d π a) j
theorem Zzl{n:Nat}(h:1<=n/\n<=4){σ τ:M}(c:τ∈Β n)(i j:Fin 8)(a:(j.val:Int)=τ i):gU σ τ i=σ j:=by unfold gU;rw[<-a];exact Ô j.isLt
theorem RW{n:Nat}(h:1<=n/\n<=4){σ τ:M}(c:σ∈Β n)(a:τ∈Β n)(m:M):fx σ (fx τ m)=fx (gU σ τ) m:=by have e:=(oe h c).perm;have h2:=(oe h a).perm;have h3:=(oe h ((mQ h a).1 σ c)).perm;funext j;obtain⟨i,hi⟩:=Dd h c j;obtain⟨l,d⟩:=Dd h a i;rw[tZ e _ i j hi.symm,tZ h2 _ l i d.symm,tZ h3 _ l j (by rw[Zzl h a l i d.symm];exact hi.symm)]
def gT(F:Zf->Zf)(p:Ù):Ù:=p.map λt=>⟨F t.c,t.m⟩
theorem Sy{F:Zf->Zf}{p:Ù}(h:jn p):jn (gT F p):=by unfold gT jn;rw[Ź];exact h
theorem KO{π:M}(h:Ì π){p q:Ù}(hp:jn p)(c:jn q)(e:q.Perm (p.map (jf π))):à π p=q:=by obtain⟨a,h2⟩:=q6 h hp;exact R5 c (a.trans e.symm) (SD h2)
theorem RX{n:Nat}(h:1<=n/\n<=4){σ τ:M}(a:σ∈Β n)(c:τ∈Β n){p:Ù}(hp:ω p):à σ (à τ p)=à (gU σ τ) p:=by have e:=(oe h a).perm;have h2:=(oe h c).perm;have h3:=(oe h ((mQ h c).1 σ a)).perm;have f:=oB h2 hp;obtain⟨a1,a2⟩:=q6 e f.ord;obtain⟨d,g⟩:=q6 h2 hp.ord;refine(KO h3 hp.ord a2 ?_).symm;refine a1.trans ((d.map _).trans (abE ?_));rw[aab];refine ŭ λt _=>?_;show(⟨t.c,fx σ (fx τ t.m)⟩:Za)=⟨t.c,_⟩;rw[RW h a c]
theorem Zvz{π:M}(h:Ì π)(F:Zf->Zf){p:Ù}(hp:ω p):à π (gT F p)=gT F (à π p):=by obtain⟨a,c⟩:=q6 h hp.ord;refine KO h (Sy hp.ord) (Sy c) ?_;unfold gT;rw[aab];refine(a.map _).trans (abE ?_);rw[aab];rfl
theorem Zz6{s:Int}(d:s=1\/s = -1){u:Int}{g k:Nat}(f:1<=g)(h:1<=k){n:Int}(e:n % ((k*g:Nat):Int)=0):s*u*((s*(n / (g:Int))) / (k:Int))=u*(n / ((k*g:Nat):Int)):=by
 obtain⟨q,rfl⟩:∃q,n=((k*g:Nat):Int)*q:=⟨n / ((k*g:Nat):Int),by have:=ec n ((k*g:Nat):Int);omega⟩;have c:((k*g:Nat):Int)*q=(g:Int)*((k:Int)*q):=by rw[Int.natCast_mul,aaC (k:Int),Int.mul_assoc]
 have a:((k*g:Nat):Int)≠0:=by have:=Nat.mul_pos (show 0<k by omega) (show 0<g by omega);omega
 rw[ey _ a,c,ey _ ŉ];rcases d with rfl|rfl
 .rw[aau,aau,ey _ ŉ]
 rw[show(-1:Int)*((k:Int)*q)=(k:Int)*(-q) by rw[Int.mul_neg,Int.neg_mul,aau],ey _ ŉ,Int.neg_mul,aau,Int.neg_mul,Int.mul_neg,Int.neg_neg]
theorem ZyJ{s:Int}(l:s=1\/s = -1){g:Nat}(k:1<=g){p:Ù}(hp:ω p)(d:p≠[])(j:∀t∈p,Î t.c % (g:Int)=0):jC (gT (fJ s g) p)=s*jC p:=by
 match p,d with
 |t::p,_=>
  obtain⟨e,m,_⟩:=hp.num (t:=t) ß;have c:=j t ß;show(if Î (fJ s g t.c)<0 then(-1:Int)else 1)=s*(if Î t.c<0 then -1 else 1);rw[LO];have n:=Mr k c m;have i:=ec (Î t.c) g;rw[c,aaB]at i;generalize Î t.c / (g:Int)=z at *;generalize Î t.c=N at *;have sg:z<0↔N<0:=by
   constructor
   .intro f;have:=abe (show(0:Int)<(g:Int) by omega) f;omega
   intro a;by_cases f:0<z
   .have:=Int.mul_pos (show(0:Int)<(g:Int) by omega) f;omega
   omega
  rcases l with rfl|rfl
  .rw[aau,aau];by_cases a:N<0
   .rw[ą a,ą (sg.2 a)]
   rw[ā a,ā (λh=>a (sg.1 h))]
  by_cases a:N<0
  .have:=sg.2 a;rw[ą a,ā ŉ];rfl
  have:¬z<0:=λh=>a (sg.1 h);rw[ā a,ą ŉ];rfl
theorem Zxd{s:Int}(h:s=1\/s = -1){g:Nat}(f:1<=g){p:Ù}(hp:ω p)(i:∀t∈p,Î t.c % (g:Int)=0):Χ (gT (fJ s g) p)=Χ p:=by
 by_cases c:p=[]
 .subst c;rfl
 have j:=K1 h f i;have a:ó (gT (fJ s g) p)*g=ó p:=j;have l:1<=ó (gT (fJ s g) p):=by
  have:=(xr hp c).1;rcases aa4 (ó (gT (fJ s g) p))with e|e
  .rw[e,dA]at a;omega
  exact e
 show(gT (fJ s g) p).map (λt=>(⟨fJ (jC (gT (fJ s g) p)) (ó (gT (fJ s g) p)) t.c,t.m⟩:Za))=p.map _;rw[ZyJ h f hp c i];generalize ó (gT (fJ s g) p)=k at *;unfold gT;rw[aab];refine ŭ λt m=>?_;have d:=xC m;rw[<-a]at d;show(⟨fJ (s*jC p) k (fJ s g t.c),t.m⟩:Za)=⟨fJ (jC p) (ó p) t.c,t.m⟩;have:fJ (s*jC p) k (fJ s g t.c)=fJ (jC p) (ó p) t.c:=by unfold fJ;rw[pq,Zz6 h f l d,a]
 rw[this]
theorem Sd{π:M}(h:Ì π){p:Ù}(hp:ω p):Χ (à π (Χ p))=Χ (à π p):=by
 by_cases a:p=[]
 .subst a;rfl
 have e:Χ p=gT (fJ (jC p) (ó p)) p:=rfl;rw[e,Zvz h _ hp];refine Zxd (Mj p) (xr hp a).1 (oB h hp) (λt c=>?_);obtain⟨y,d,rfl⟩:=Ğ.1 ((q6 h hp.ord).1.mem_iff.1 c);have:=xC d;exact this
def kz(π:M)(l:Ŀ Ù):Ŀ Ù:=l.map λp=>Χ (à π p)
theorem Tr{n:Nat}{least:Int}{l:Ŀ Ù}(f:n<=4)(h:iL (n:Int) least l){π:M}(d:gD n π){plain:Bool}(hp:plain=true->1<=least):kept (l.map (à π)) plain=kz π l:=by have e:=Gj f h d;unfold kept kz;rw[aab];refine List.filter_eq_self.2 λq g=>?_;obtain⟨p,c,rfl⟩:=Ğ.1 g;obtain⟨j,k,i,q4⟩:=e (à π p) (Ğ.2 ⟨p,c,rfl⟩);have:=ZzP (l:=[à π p]) (plain:=plain) (p:=à π p) ß i (λa=>by have:=hp a;omega);exact(ŋ.1 this).2
theorem yV{k:Zb}(h:ç k){π:M}(a:π∈Β k.n.toNat):ü k π=⟨k.n,ep (kz π k.eqs),ep (kz π k.δ)⟩:=by obtain⟨n,eqs,δ⟩:=k;obtain⟨m,rfl,e,c⟩:=vC h.n;have d:gD m π:=oe ⟨e,c⟩ a;rw[(lQ h (lR h π a)).eq];have hi:=Gj c h.δ d;dsimp only at hi⊢;unfold hN;rw[Le (λp hp=>(hi p hp).2.2.1),ę,Tr c h.eqs d (λh=>by cases h),Tr c h.δ d (λ_=>Ŝ 1)]
theorem VI{n:Nat}{least:Int}{l:Ŀ Ù}(h:iL (n:Int) least l){π:M}(a:Ì π):∀q∈kz π l,ω q:=λq c=>by obtain⟨p,hp,rfl⟩:=Ğ.1 c;exact vB (oB a (h.hZ p hp).1)
theorem UD{n:Nat}(f:1<=n/\n<=4){least:Int}{l:Ŀ Ù}(h:iL (n:Int) least l){σ τ:M}(c:σ∈Β n)(d:τ∈Β n):ep (kz σ (ep (kz τ l)))=ep (kz (gU σ τ) l):=by
 have g:=(oe f c).perm;have h2:=(oe f d).perm;have h3:=(oe f ((mQ f d).1 σ c)).perm;have j:=VI h h2;obtain⟨a1,a2⟩:=FY (λp hp=>(j p hp).gq);have r:∀q∈kz σ (ep (kz τ l)),ω q:=λq e=>by obtain⟨p,hp,rfl⟩:=Ğ.1 e;exact vB (oB g (j p ((a2 p).1 hp)))
 obtain⟨k,m⟩:=FY (λp hp=>(r p hp).gq);refine VJ (λp hp=>(VI h h3 p hp).gq) k λz=>?_;rw[m z];constructor
 .intro i;obtain⟨p,hp,rfl⟩:=Ğ.1 i;obtain⟨q,e,rfl⟩:=Ğ.1 ((a2 p).1 hp);have a:=(h.hZ q e).1;refine Ğ.2 ⟨q,e,?_⟩;show Χ (à (gU σ τ) q)=Χ (à σ (Χ (à τ q)));rw[Sd g (oB h2 a),RX f c d a]
 intro i;obtain⟨q,e,rfl⟩:=Ğ.1 i;have a:=(h.hZ q e).1;refine Ğ.2 ⟨Χ (à τ q),(a2 _).2 (Ğ.2 ⟨q,e,rfl⟩),?_⟩;show Χ (à σ (Χ (à τ q)))=Χ (à (gU σ τ) q);rw[Sd g (oB h2 a),RX f c d a]
theorem RU{k:Zb}(h:ç k){σ τ:M}(c:σ∈Β k.n.toNat)(a:τ∈Β k.n.toNat):ü (ü k τ) σ=ü k (gU σ τ):=by have n:=(lQ h (lR h τ a)).core;obtain⟨m,p,e,f⟩:=vC h.n;have d:k.n.toNat=m:=ŉ;have i:=h.eqs;have hi:=h.δ;rw[p]at i hi;rw[d]at c a;have g:=yV h (π:=τ) (by rw[d];exact a);have j:=yV h (π:=gU σ τ) (by rw[d];exact(mQ ⟨e,f⟩ a).1 σ c);have l:=yV n (π:=σ) (by rw[g];show σ∈Β k.n.toNat;rw[d];exact c);rw[l,j,g];show(⟨k.n,ep (kz σ (ep (kz τ k.eqs))),ep (kz σ (ep (kz τ k.δ)))⟩:Zb)=_;rw[UD ⟨e,f⟩ i c a,UD ⟨e,f⟩ hi c a]
theorem LD(k:Zb):∀(l:Ŀ M) (s:Zb×M),(∃ρ,s=(ü k ρ,ρ))->
  (∃ρ,fk k l s=(ü k ρ,ρ)/\(ρ∈l\/fk k l s=s))/\(¬Op.bytesLess (þ s.1).toList (þ (fk k l s).1).toList=true)/\∀π∈l,¬Op.bytesLess (þ (ü k π)).toList (þ (fk k l s).1).toList=true
 |[],s,⟨ρ,g⟩=>⟨⟨ρ,g,.inr rfl⟩,Rk _,λπ i=>by cases i⟩
 |π::l,s,⟨ρ,g⟩=>by
  unfold fk;by_cases c:Op.bytesLess (þ (ü k π)).toList (þ s.1).toList=true
  .rw[ą c];obtain⟨⟨r,d,h2⟩,h3,f⟩:=LD k l (ü k π,π) ⟨π,rfl⟩;refine⟨⟨r,d,?_⟩,λh=>?_,λx a=>?_⟩
   .rcases h2 with h2|h2
    .exact .inl (by simp[h2])
    rw[d]at h2;have e:=(Prod.mk.inj h2).2;exact .inl (by simp[e])
   .exact h3 (KJ c h)
   rcases Ď.1 a with rfl|a
   .exact h3
   exact f x a
  rw[ā c];obtain⟨⟨r,d,h2⟩,h3,f⟩:=LD k l s ⟨ρ,g⟩;refine⟨⟨r,d,?_⟩,h3,λx a=>?_⟩
  .rcases h2 with h2|h2
   .exact .inl (by simp[h2])
   exact .inr h2
  rcases Ď.1 a with rfl|a
  .intro h;by_cases e:Op.bytesLess (þ (fk k l s).1).toList (þ s.1).toList=true
   .exact c (KJ h e)
   have:=Rs h3 e;rw[<-this]at h;exact c h
  exact f x a
theorem Su(k:Zb):∀(l:Ŀ M) (s:Zb×M),(∀π∈l,¬Op.bytesLess (þ (ü k π)).toList (þ s.1).toList=true)->fk k l s=s
 |[],_,_=>rfl
 |π::l,s,h=>by unfold fk;rw[ā (h π ß)];exact Su k l s λx a=>h x (by simp[a])
theorem E7(k:Zb):(∃ρ∈Β k.n.toNat,â k=(ü k ρ,ρ))/\∀π∈Β k.n.toNat,¬Op.bytesLess (þ (ü k π)).toList (þ (â k).1).toList=true:=by
 obtain⟨⟨ρ,c,h2⟩,h3,d⟩:=LD k (Β k.n.toNat).tail (ü k (λi=>(i.val:Int)),λi=>(i.val:Int)) ⟨_,rfl⟩;rw[vq];refine⟨⟨ρ,?_,c⟩,λπ a=>?_⟩
 .rcases h2 with h2|h2
  .simp[h2]
  rw[c]at h2;have:=(Prod.mk.inj h2).2;simp[this]
 rcases Ď.1 a with rfl|a
 .exact h3
 exact d π a
theorem id_comp{n:Nat}(a:1<=n/\n<=4){ρ:M}(h:ρ∈Β n):gU (λi=>(i.val:Int)) ρ=ρ:=by funext i;have hr:=(oe a h).perm.ou i;show Ε _ (ρ i)=ρ i;rw[mU hr];show((ρ i).toNat:Int)=ρ i;omega
theorem ZlQ{π:M}(h:Ì π):(Ji π).Α true:=by
 refine Cq.Zn 8 (λk s=>∃a:Fin 8->Bool,s=((k:Int),a)/\∀j,a j=true->∃i:Fin 8,i.val<k/\(j.val:Int)=π i) (λk s c e=>?_) (λs e=>?_) ⟨_,rfl,λj f=>by cases f⟩
 .obtain⟨a,rfl,d⟩:=e;have r:=h.ou ⟨k,c⟩;refine Cq.wp.yes ŉ ⟨⟨ŉ,ŉ⟩,?_⟩;rw[Ô c];refine Cq.wp.no ŉ ⟨⟨ŉ,ŉ⟩,Cq.wp.no ŉ ⟨⟨ŉ,ŉ⟩,r,Cq.wp.no (Gb h c d) ⟨⟨ŉ,ŉ⟩,r,?_⟩⟩⟩;rw[ψ ŉ];exact⟨_,rfl,Fk h c d⟩
 obtain⟨a,rfl,d⟩:=e;exact Cq.wp.no ĳ rfl
end Go.EL

namespace Go.EL
open Go.IntKind (i8 i16 i32 i64 u8 u16 u32 u64)
open Go Go.RowKit
abbrev Qn:=Int×Nat
def Ν(x:Qn):Zf:=⟨ã x.1,ã (x.2:Int)⟩
def uM(n:Int)(d:Nat):Qn:=(n / ((Nat.gcd n.natAbs d:Nat):Int),d / Nat.gcd n.natAbs d)
def hC(x y:Qn):Qn:=uM (x.1*y.1) (x.2*y.2)
def my(x y:Qn):Qn:=uM (x.1*(y.2:Int)-y.1*(x.2:Int)) (x.2*y.2)
def kg(x:Qn):Qn:=if x.1<0 then(-(x.2:Int),x.1.natAbs)else((x.2:Int),x.1.natAbs)
def oZ(x:Qn):Int:=if x.1<0 then -1 else if x.1=0 then 0 else 1
def hW:Ŀ Qn:=[(0,1),(1,1),(-1,1),(2,1),(-2,1),(3,1),(-3,1),(1,2),(-1,2),(3,2),(-3,2),(1,3),(-1,3),(2,3),(-2,3)]
def jI(x:Qn):Bool:=match x.2 with
 |1=>match x.1 with
  |.ofNat n=>Nat.ble n 3
  |.negSucc n=>Nat.ble n 2
 |2=>match x.1 with
  |.ofNat n=>Nat.beq n 1 || Nat.beq n 3
  |.negSucc n=>Nat.beq n 0 || Nat.beq n 2
 |3=>match x.1 with
  |.ofNat n=>Nat.beq n 1 || Nat.beq n 2
  |.negSucc n=>Nat.beq n 0 || Nat.beq n 1
 |_=>false
theorem F9{x:Qn}(h:jI x=true):x∈hW:=by
 obtain⟨n,d⟩:=x;unfold jI at h;dsimp only at h;split at h
 .cases n with
  |ofNat n=>have h:=Š h;match n,h with|0,_=>decide|1,_=>decide|2,_=>decide|3,_=>decide
  |negSucc n=>have h:=Š h;match n,h with|0,_=>decide|1,_=>decide|2,_=>decide
 .cases n with
  |ofNat n=>rw[Ĵ]at h;rcases h with h|h<;>(rw[ĵ h];decide)
  |negSucc n=>rw[Ĵ]at h;rcases h with h|h<;>(rw[ĵ h];decide)
 .cases n with
  |ofNat n=>rw[Ĵ]at h;rcases h with h|h<;>(rw[ĵ h];decide)
  |negSucc n=>rw[Ĵ]at h;rcases h with h|h<;>(rw[ĵ h];decide)
 cases h
theorem Oy:(á (-1) 3 λn=>runs 40 (ZX n) (Ν (n,1))&&runs 40 (wN n) (Ν (n,1)))=true:=by decide +kernel
theorem Ov:(hW.all λx=>runs 40 (oy (Ν x)) (oZ x)&&runs 40 (ZH (Ν x)) (oZ x))=true:=by decide +kernel
theorem Ox:(hW.all λx=>x.1 == 0 || runs 60 (Gi (Ν x)) (Ν (kg x),0))=true:=by decide +kernel
theorem Dt:(hW.all λx=>hW.all λy=>runs 60 (qZ (Ν x) (Ν y)) (Ν (hC x y)))=true:=by decide +kernel
theorem Dv:(hW.all λx=>hW.all λy=>runs 60 (F2 (Ν x) (Ν y)) (Ν (my x y)))=true:=by decide +kernel
theorem Ds:(hW.all λx=>hW.all λy=>runs 60 (Z7 (Ν x) (Ν y)) (Ν (hC x y)))=true:=by decide +kernel
theorem Du:(hW.all λx=>hW.all λy=>runs 60 (Ej (Ν x) (Ν y)) (Ν (my x y)))=true:=by decide +kernel
theorem Dw:(hW.all λx=>hW.all λy=>y.1 == 0 || runs 60 (Ex (Ν x) (Ν y)) (Ν (hC x (kg y)),0))=true:=by decide +kernel
theorem s9{f:Qn->Qn->Bool}(h:(hW.all λx=>hW.all λy=>f x y)=true){x y:Qn}(a:jI x=true)(c:jI y=true):f x y=true:=Ć.1 (Ć.1 h x (F9 a)) y (F9 c)
theorem xE{n:Int}(h:-1<=n/\n<=3):(ZX n).Α (Ν (n,1))/\(wN n).Α (Ν (n,1)):=by have:=Zq Oy h.1 h.2;rw[ĉ]at this;exact⟨Zr this.1,Zr this.2⟩
theorem Mx{x:Qn}(h:jI x=true):(oy (Ν x)).Α (oZ x)/\(ZH (Ν x)).Α (oZ x):=by have:=Ć.1 Ov x (F9 h);rw[ĉ]at this;exact⟨Zr this.1,Zr this.2⟩
theorem ZBx{x:Qn}(h:jI x=true)(a:x.1≠0):(Gi (Ν x)).Α (Ν (kg x),0):=by have:=Ć.1 Ox x (F9 h);rw[Ĵ]at this;exact Zr (this.resolve_left (by simpa using a))
theorem OW{x y:Qn}(a:jI x=true)(c:jI y=true):(qZ (Ν x) (Ν y)).Α (Ν (hC x y)):=Zr (s9 Dt a c)
theorem ZBA{x y:Qn}(a:jI x=true)(c:jI y=true):(F2 (Ν x) (Ν y)).Α (Ν (my x y)):=Zr (s9 Dv a c)
theorem ZBy{x y:Qn}(a:jI x=true)(c:jI y=true):(Z7 (Ν x) (Ν y)).Α (Ν (hC x y)):=Zr (s9 Ds a c)
theorem ZBz{x y:Qn}(a:jI x=true)(c:jI y=true):(Ej (Ν x) (Ν y)).Α (Ν (my x y)):=Zr (s9 Du a c)
theorem ZBB{x y:Qn}(c:jI x=true)(d:jI y=true)(a:y.1≠0):(Ex (Ν x) (Ν y)).Α (Ν (hC x (kg y)),0):=by have:=s9 Dw c d;rw[Ĵ]at this;exact Zr (this.resolve_left (by simpa using a))
end Go.EL

namespace Go.EL
open Go.IntKind (i8 i16 i32 i64 u8 u16 u32 u64)
open Go Go.RowKit
def nJ(n:Int):Qn:=uM n 3
def oM(n m:Int):Qn:=uM (2*n+3*m) 6
def nu(x:Qn):Bool:=runs 60 (ub (Ν x)) true&&runs 60 (ZZ (Ν x)) true
def qt(x:Qn)(b:Bool):Bool:=runs 60 (vl (Ν x)) b&&runs 60 (tu (Ν x)) b
def BC(x y:Qn)(c:Int):Bool:=runs 60 (vz (Ν x) (Ν y)) c&&runs 60 (vf (Ν x) (Ν y)) c
theorem Mm:(á (-128) 127 λn=>runs 60 (xi ⟨n,3,0⟩) (Ν (nJ n))&&(nu (nJ n)&&qt (nJ n) (decide (n=0))))=true:=by decide +kernel
theorem Tl:(á 0 7 λm=>runs 60 (xi ⟨m,2,0⟩) (Ν (uM m 2))&&qt (oM 0 m) (decide (m=0)))=true:=by decide +kernel
theorem YB:(á (-256) 275 λs=>nu (uM s 6))=true:=by decide +kernel
theorem Zzk:(á 0 7 λm=>á (-128) 127 λn=>BC (nJ n) (oM n m) (if m=0 then 0 else -1))=true:=by decide +kernel
def na(m:Int):Bool:=á (-128) 127 λn=>runs 60 (vy (Ν (nJ n)) (Ν (uM m 2))) (Ν (oM n m))
theorem My:na 0=true:=by decide +kernel
theorem Mz:na 1=true:=by decide +kernel
theorem MA:na 2=true:=by decide +kernel
theorem MB:na 3=true:=by decide +kernel
theorem MC:na 4=true:=by decide +kernel
theorem MD:na 5=true:=by decide +kernel
theorem ME:na 6=true:=by decide +kernel
theorem MF:na 7=true:=by decide +kernel
theorem ZxU{m:Int}(h:0<=m/\m<=7):na m=true:=by
 have:m=0\/m=1\/m=2\/m=3\/m=4\/m=5\/m=6\/m=7:=ŉ;rcases this with rfl|rfl|rfl|rfl|rfl|rfl|rfl|rfl
 .exact My
 .exact Mz
 .exact MA
 .exact MB
 .exact MC
 .exact MD
 .exact ME
 exact MF
abbrev gM(n:Int):Prop:=-128<=n/\n<=127
abbrev iA(m:Int):Prop:=0<=m/\m<=7
theorem UT{n:Int}(h:gM n):(xi ⟨n,3,0⟩).Α (Ν (nJ n)):=by have:=Zq Mm h.1 h.2;rw[ĉ]at this;exact Zr this.1
theorem ZwN{m:Int}(h:iA m):(xi ⟨m,2,0⟩).Α (Ν (uM m 2)):=by have:=Zq Tl h.1 h.2;rw[ĉ]at this;exact Zr this.1
theorem UP{n m:Int}(h:gM n)(a:iA m):(vy (Ν (nJ n)) (Ν (uM m 2))).Α (Ν (oM n m)):=
 Zr (Zq (ZxU a) h.1 h.2)
theorem Tu{n:Int}(h:gM n):(ub (Ν (nJ n))).Α true/\(ZZ (Ν (nJ n))).Α true:=by have:=Zq Mm h.1 h.2;unfold nu at this;simp only[ĉ]at this;exact⟨Zr this.2.1.1,Zr this.2.1.2⟩
theorem UU{n:Int}(h:gM n):(vl (Ν (nJ n))).Α (decide (n=0))/\(tu (Ν (nJ n))).Α (decide (n=0)):=by have:=Zq Mm h.1 h.2;unfold qt at this;simp only[ĉ]at this;exact⟨Zr this.2.2.1,Zr this.2.2.2⟩
theorem ZzK{m:Int}(h:iA m):(vl (Ν (oM 0 m))).Α (decide (m=0))/\(tu (Ν (oM 0 m))).Α (decide (m=0)):=by have:=Zq Tl h.1 h.2;unfold qt at this;simp only[ĉ]at this;exact⟨Zr this.2.1,Zr this.2.2⟩
theorem Tn{n m:Int}(h:gM n)(a:iA m):(ub (Ν (oM n m))).Α true/\(ZZ (Ν (oM n m))).Α true:=by have:=Zq YB (show -256<=2*n+3*m by omega) (show 2*n+3*m<=275 by omega);unfold nu at this;simp only[ĉ]at this;exact⟨Zr this.1,Zr this.2⟩
theorem TM{n m:Int}(h:gM n)(a:iA m):(vz (Ν (nJ n)) (Ν (oM n m))).Α (if m=0 then 0 else -1)/\(vf (Ν (nJ n)) (Ν (oM n m))).Α (if m=0 then 0 else -1):=by have:=Zq (Zq Zzk a.1 a.2) h.1 h.2;unfold BC at this;simp only[ĉ]at this;exact⟨Zr this.1,Zr this.2⟩
def l8(n m:Int):Zl:=⟨Ν (nJ n),Ν (oM n m)⟩
theorem P2{n m:Int}(h:gM n)(a:iA m):(JT (l8 n m)).Α true:=by refine⟨true,(Tu h).1,true,(Tn h a).1,_,(TM h a).1,?_⟩;show decide _=true;split<;>decide
theorem Zoe{n m:Int}(h:gM n)(a:iA m):(I7 (l8 n m)).Α true:=by refine⟨true,(Tu h).2,true,(Tn h a).2,_,(TM h a).2,?_⟩;show decide _=true;split<;>decide
end Go.EL

namespace Go.EL
open Go.IntKind (i8 i16 i32 i64 u8 u16 u32 u64)
open Go Go.RowKit
def eZ{α:Type}(Z row:Ŀ α)(n:Nat):Ŀ α:=Z.take n++row.drop n
section
variable {α:Type}{Z row:Ŀ α}
theorem Zvf:eZ Z row 0=row:=rfl
theorem ZwH(h:Z.length=row.length):eZ Z row Z.length=Z:=by unfold eZ;rw[List.take_length,h,List.drop_length,List.append_nil]
theorem EN(h:Z.length=row.length){n:Nat}(a:Z.length<=n):eZ Z row n=Z:=by unfold eZ;rw[List.take_of_length_le a,List.drop_eq_nil_of_le ŉ,List.append_nil]
theorem SE(h:Z.length=row.length)(n:Nat):(eZ Z row n).length=row.length:=by unfold eZ;rw[List.length_append,List.length_take,List.length_drop];omega
theorem LJ(h:Z.length=row.length){n:Nat}(a:n<row.length):(eZ Z row n)[n]?=some row[n]:=by unfold eZ;rw[ģ (by rw[č];omega),č,ŧ,show n+(n-min n Z.length)=n by omega];exact Ą a
theorem AT(h:Z.length=row.length){n:Nat}(a:n<row.length):(eZ Z row n).set n (Z[n]'ŉ)=eZ Z row (n+1):=by
 refine Ÿ λi=>?_;unfold eZ;rw[aad];by_cases e:n=i
 .subst e;rw[ą rfl,ą (by rw[Ā,č,ľ];omega),Ė (by rw[č];omega),Ŵ ŉ,Ą ŉ]
 rw[ā e];by_cases hi:i<n
 .rw[Ė (by rw[č];omega),Ė (by rw[č];omega),Ŵ hi,Ŵ ŉ]
 rw[ģ (by rw[č];omega),ģ (by rw[č];omega),č,č,ŧ,ŧ];congr 1;omega
theorem KH(h:Z.length=row.length)(g:row.length<=1000){step:Int×Ŀ α->Cq ((Int×Ŀ α)⊕Ŀ α)}(f:∀n (i:n<row.length),(step ((n:Int),eZ Z row n)).Α (.inl (((n+1:Nat):Int),(eZ Z row n).set n (Z[n]'ŉ))))
  (h2:(step ((row.length:Int),Z)).Α (.inr Z)):(Cq.loop step (0,row)).Α Z:=by
 refine Cq.Zn row.length (λk s=>s=((k:Int),eZ Z row k)) (λk s d c=>?_) (λs c=>?_) rfl
 .subst c
  refine(step _).mono (λa (e:a=_)=>?_) (f k d)
  subst e
  show _=_
  rw[AT h d]
 subst c
 rw[<-h,ZwH h]
 refine(step _).mono (λa (e:a=_)=>?_) (by rw[h];exact h2)
 subst e
 rfl
end
theorem ug{l:Ŀ Qn}{n:Nat}(h:n<l.length):(0:Int)<=(n:Int)/\(l.map Ν)[(n:Int).toNat]?=some (Ν l[n]):=⟨ŉ,by simp[h]⟩
theorem vm{α:Type}{Z row:Ŀ α}(h:Z.length=row.length){n:Nat}(a:n<row.length):(0:Int)<=(n:Int)/\(eZ Z row n)[(n:Int).toNat]?=some row[n]:=⟨ŉ,by rw[Ē];exact LJ h a⟩
def oU(row oi:Ŀ Qn)(c:Qn):Ŀ Qn:=List.zipWith (λx y=>my x (hC c y)) row oi
def qc(row oi:Ŀ Qn)(c:Qn):Bool:=jI c&&row.all jI&&oi.all jI&&oi.all (λy=>jI (hC c y))&&decide (row.length=8)&&decide (oi.length=8)
theorem ZxQ{row oi:Ŀ Qn}{k:Nat}(j:k<row.length)(h:qc row oi row[k]=true):(J5 (row.map Ν) (oi.map Ν) (k:Int)).Α ((oU row oi row[k]).map Ν):=by
 unfold qc at h;simp only[ĉ,Ę,Ć]at h;obtain⟨⟨⟨⟨⟨f,h2⟩,h3⟩,g⟩,l⟩,m⟩:=h;have d:((oU row oi row[k]).map Ν).length=(row.map Ν).length:=by rw[List.length_map,List.length_map];unfold oU;rw[List.length_zipWith];omega
 refine⟨_,ug j,?_⟩;show(Cq.next _ _).wp _;refine Cq.mono _ (λa (e:a=_)=>?_) (KH (Z:=(oU row oi row[k]).map Ν) (row:=row.map Ν) d (by rw[ć];omega) (λn c=>?_) ?_)
 .subst e;rfl
 .have nI:n<row.length:=by rwa [ć]at c
  have i:n<oi.length:=ŉ;refine Cq.wp.yes ŉ ⟨_,vm d c,_,ug i,Ν (hC row[k] oi[n]),OW f (h3 _ (Ă _)),Ν (my row[n] (hC row[k] oi[n])),?_,_,vm d c,?_⟩
  .rw[Ū];exact ZBA (h2 _ (Ă _)) (g _ (Ă _))
  show _=_;rw[ψ ŉ];congr 3;simp[oU]
 exact Cq.wp.no (by rw[ć];omega) rfl
def eI:Ŀ Qn->Nat
 |[]=>0
 |x::l=>if x.1=0 then eI l+1 else 0
theorem Lk:∀l:Ŀ Qn,eI l<=l.length
 |[]=>Ĉ _
 |x::l=>by have:=Lk l;unfold eI;split<;>simp only[Ě]<;>omega
theorem Tg:∀{l:Ŀ Qn}{n:Nat}(h:n<l.length),n<eI l->l[n].1=0
 |x::l,0,_,h=>by
  unfold eI at h;split at h
  .assumption
  omega
 |x::l,n+1,a,h=>by
  unfold eI at h;split at h
  .exact Tg (l:=l) (by simpa using a) ŉ
  omega
theorem Ll:∀{l:Ŀ Qn}(h:eI l<l.length),l[eI l].1≠0
 |x::l,h=>by
  by_cases a:x.1=0
  .have e:eI (x::l)=eI l+1:=ą a;simp only[e,x6];exact Ll (l:=l) (by rw[e]at h;simpa using h)
  have e:eI (x::l)=0:=ā a;simp only[e,dI];exact a
theorem Fl{x:Qn}:oZ x=0↔x.1=0:=by
 unfold oZ;split
 .constructor<;>intro<;>omega
 split<;>constructor<;>intro<;>omega
theorem Zv1{row:Ŀ Qn}(h:row.length=8)(a:row.all jI=true):(Qz (row.map Ν) 0).Α (eI row:Int):=by
 rw[Ć]at a;have f:=Lk row;refine Cq.Zn (eI row) (λk s=>s=(k:Int)) (λk s d c=>?_) (λs c=>?_) rfl
 .subst c;refine Cq.wp.yes ŉ ⟨_,ug (l:=row) ŉ,_,(Mx (a _ (Ă ŉ))).1,Cq.wp.yes (Fl.2 (Tg ŉ d)) ?_⟩;show _=_;rw[ψ ŉ]
 subst c;by_cases g:eI row<8
 .refine Cq.wp.yes ŉ ⟨_,ug (l:=row) ŉ,_,(Mx (a _ (Ă ŉ))).1,Cq.wp.no (λe=>Ll ŉ (Fl.1 e)) rfl⟩
 exact Cq.wp.no ŉ rfl
def oY(row:Ŀ Qn)(c:Qn):Ŀ Qn:=row.map λx=>hC x c
theorem ZxR{row:Ŀ Qn}{c:Qn}(e:Int)(h:row.length=8)(a:row.all jI=true)(g:jI c=true):(Qy (Ν c,e) (0,row.map Ν)).Α ((oY row c).map Ν):=by
 rw[Ć]at a;have f:((oY row c).map Ν).length=(row.map Ν).length:=by simp[oY]
 refine KH (Z:=(oY row c).map Ν) (row:=row.map Ν) f (by rw[ć];omega) (λn d=>?_) ?_
 .have nI:n<row.length:=by rwa [ć]at d
  refine Cq.wp.yes ŉ ⟨_,vm f d,Ν (hC row[n] c),?_,_,vm f d,?_⟩
  .rw[Ū];exact OW (a _ (Ă _)) g
  show _=_;rw[ψ ŉ];congr 3;simp[oY]
 exact Cq.wp.no (by rw[ć];omega) rfl
def fV(m:Fin 8->Int):Ŀ Qn:=(List.range 8).map λ(k:Nat)=>(Ε m (k:Int),1)
def lT(m:Fin 8->Int):Bool:=decide (∀i,-1<=m i/\m i<=3)
theorem LY(m:Fin 8->Int):(fV m).length=8:=by simp[fV]
theorem T1{m:Fin 8->Int}(h:lT m=true){k:Nat}(a:k<8):-1<=Ε m (k:Int)/\Ε m (k:Int)<=3:=by rw[Ô a];exact ĥ h _
theorem Zv3{o:Ord}{i:Nat}(hi:i<o.length)(h:lT o[i]=true){z:Zf}:(Qk o (i:Int) (0,List.replicate 8 z)).Α ((fV o[i]).map Ν):=by
 have c:((fV o[i]).map Ν).length=(List.replicate 8 z).length:=by rw[ć,LY,Ĺ]
 refine KH (Z:=(fV o[i]).map Ν) (row:=List.replicate 8 z) c (by rw[Ĺ];omega) (λn a=>?_) ?_
 .have nI:n<8:=by rwa [Ĺ]at a
  refine Cq.wp.yes ŉ ⟨_,Μ hi,⟨ŉ,ŉ⟩,Ν (Ε o[i] (n:Int),1),(xE (T1 h nI)).1,_,vm c a,?_⟩;show _=_;rw[ψ ŉ];congr 3;simp[fV]
 exact Cq.wp.no (by rw[Ĺ];omega) rfl
def fy(done:Ŀ (Ŀ Qn×Nat))(row:Ŀ Qn):Nat->Ŀ Qn
 |0=>row
 |k+1=>match done[k]? with
  |some d=>oU (fy done row k) d.1 ((fy done row k).getD d.2 (0,1))
  |none=>fy done row k
def qd(done:Ŀ (Ŀ Qn×Nat))(row:Ŀ Qn):Bool:=(List.range done.length).all λk=>match done[k]? with
 |some d=>qc (fy done row k) d.1 ((fy done row k).getD d.2 (0,1))&&decide (d.2<8)
 |none=>false
theorem Zto{done:Ŀ (Ŀ Qn×Nat)}{row:Ŀ Qn}(l:done.length<=100)(h:qd done row=true):
  (QA (done.map λd=>d.1.map Ν) (done.map λd=>(d.2:Int)) (0,row.map Ν)).Α ((fy done row done.length).map Ν):=by
 refine Cq.Zn done.length (λk s=>s=((k:Int),(fy done row k).map Ν)) (λk s c e=>?_) (λs e=>?_) rfl
 .subst e
  have a:=Ć.1 h k (ĺ.2 c)
  have f:done[k]?=some done[k]:=Ą c
  rw[f]at a
  dsimp only at a
  rw[ĉ]at a
  have j:(fy done row k).length=8:=by have:=a.1;unfold qc at this;simp only[ĉ,Ę]at this;exact this.1.2
  have h2:done[k].2<(fy done row k).length:=by rw[j];exact ĥ a.2
  have g:(fy done row k).getD done[k].2 (0,1)=(fy done row k)[done[k].2]:=by rw[Ģ,Ą h2];rfl
  rw[g]at a
  refine Cq.wp.yes (by rw[ć];omega) ⟨done[k].1.map Ν,⟨ŉ,by simp[c]⟩,(done[k].2:Int),⟨ŉ,by simp[c]⟩,_,ZxQ h2 a.1,?_⟩
  show _=_
  rw[ψ ŉ]
  congr 2
  have i:fy done row (k+1)=match done[k]? with|some d=>oU (fy done row k) d.1 ((fy done row k).getD d.2 (0,1))|none=>fy done row k:=rfl
  rw[i,f]
  dsimp only
  rw[g]
 subst e
 exact Cq.wp.no (by rw[ć];omega) rfl
def ô(o:Ord):Nat->Ŀ (Ŀ Qn×Nat)
 |0=>[]
 |k+1=>match o[k]? with
  |some m=>
   let row:=fy (ô o k) (fV m) (ô o k).length
   if eI row=8 then ô o k else ô o k++[(oY row (kg (row.getD (eI row) (0,1))),eI row)]
  |none=>ô o k
theorem Cq.eM{α β:Type}{c:Cq α}{k:α->Cq β}{p:β->Prop}{r:α}(h:c.Α r)(h2:(k r).wp p):(c.next k).wp p:=c.mono (λa (e:a=r)=>by rw[e];exact h2) h
def sJ(o:Ord):Bool:=(List.range o.length).all λk=>match o[k]? with
 |some m=>
  let row:=fy (ô o k) (fV m) (ô o k).length
  lT m&&qd (ô o k) (fV m)&&row.all jI&&decide (row.length=8)&&(eI row == 8 || (jI (row.getD (eI row) (0,1))&&jI (kg (row.getD (eI row) (0,1)))))
 |none=>false
theorem R1(o:Ord):∀k,(ô o k).length<=k
 |0=>Ĉ _
 |k+1=>by
  have:=R1 o k;unfold ô;split
  .dsimp only;split
   .omega
   rw[Ā];simp only[Ě,Ļ];omega
  omega
theorem Zv4{o:Ord}(A:o.length<=40)(h:sJ o=true):(FH o).Α ((ô o o.length).length:Int):=by
 show(Cq.next _ _).wp _;refine Cq.Zn o.length (λk s=>s=((ô o k).map (λd=>d.1.map Ν),(ô o k).map (λd=>(d.2:Int)),(k:Int))) (λk s j l=>?_) (λs l=>?_) rfl
 .subst l;have e:=Ć.1 h k (ĺ.2 j);have q:o[k]?=some o[k]:=Ą j;rw[q]at e;dsimp only at e;simp only[ĉ,Ę]at e;obtain⟨⟨⟨⟨t,h2⟩,h3⟩,n⟩,g⟩:=e;have x:=R1 o k;have f:ô o (k+1)=if eI (fy (ô o k) (fV o[k]) (ô o k).length)=8 then ô o k else ô o k++[(oY (fy (ô o k) (fV o[k]) (ô o k).length) (kg ((fy (ô o k) (fV o[k]) (ô o k).length).getD (eI (fy (ô o k) (fV o[k]) (ô o k).length)) (0,1))),eI (fy (ô o k) (fV o[k]) (ô o k).length))]:=by
   show(match o[k]? with|some m=>_|none=>_)=_;rw[q]
  generalize y:ô o k=D at *;have c:=Zto (done:=D) (row:=fV o[k]) ŉ h2;generalize r:fy D (fV o[k]) D.length=row at *;have u:=Lk row;refine Cq.wp.yes ŉ ?_;refine Cq.eM (Zv3 j t) (Cq.eM c (Cq.eM (Zv1 n h3) ?_));by_cases i:eI row=8
  .refine Cq.wp.yes ŉ ?_;show _=_;rw[ψ ŉ,f,ą i]
  refine Cq.wp.no ŉ ?_;have a:eI row<row.length:=ŉ;have v:row.getD (eI row) (0,1)=row[eI row]:=by rw[Ģ,Ą a];rfl
  rw[v]at g f;have p:jI row[eI row]=true/\jI (kg row[eI row])=true:=by rw[Ĵ,aa7,ĉ]at g;exact g.resolve_left i
  refine⟨_,ug a,_,ZBx p.1 (Ll a),Cq.eM (ZxR 0 n h3 p.2) ?_⟩;refine⟨by simp only[Ā,ć,Ě,Ļ];show _<=small;simp only[small];omega,by simp only[Ā,ć,Ě,Ļ];show _<=small;simp only[small];omega,?_⟩;show _=_;rw[ψ ŉ,f,ā i,Ī,Ī];rfl
 subst l;refine Cq.wp.no ŉ ?_;show _=_;rw[ć]
end Go.EL

namespace Go.EL
open Go.IntKind (i8 i16 i32 i64 u8 u16 u32 u64)
open Go Go.RowKit
abbrev Mq:=Ŀ (Ŀ Qn)
def gw(V:Mq):Ŀ (Ŀ Zf):=V.map λr=>r.map Ν
theorem Gc{α:Type}{V:Ŀ α}{k:Nat}(a:k<V.length)(r:α):(0:Int)<=(k:Int)/\(V.set k r)[(k:Int).toNat]?=some r:=⟨ŉ,by simp[a]⟩
theorem YV{α:Type}{V:Ŀ α}{k j:Nat}(a:j<V.length)(h:k≠j)(r:α):(0:Int)<=(j:Int)/\(V.set k r)[(j:Int).toNat]?=some V[j]:=⟨ŉ,by simp[h,a]⟩
theorem LZ{α:Type}{V:Ŀ α}{k:Nat}(a:k<V.length):V.set k V[k]=V:=ß
theorem ZwZ{m:Fin 8->Int}(h:lT m=true){V:Ŀ (Ŀ Zf)}{k:Nat}(f:k<V.length){z:Zf}(g:V[k]=List.replicate 8 z):(PJ (k:Int) m (V,0)).Α (V.set k ((fV m).map Ν)):=by
 have c:((fV m).map Ν).length=(List.replicate 8 z).length:=by rw[ć,LY,Ĺ]
 refine Cq.Zn 8 (λj s=>s=(V.set k (eZ ((fV m).map Ν) (List.replicate 8 z) j),(j:Int))) (λj s e d=>?_) (λs d=>?_) (by rw[Zvf,<-g,LZ f];rfl)
 .subst d;have a:j<(List.replicate 8 z).length:=by rw[Ĺ];exact e
  refine Cq.wp.yes ŉ ⟨⟨ŉ,ŉ⟩,Ν (Ε m (j:Int),1),(xE (T1 h e)).2,_,Gc f _,_,vm c a,?_⟩;show _=_;rw[ψ ŉ,Ē,Ē,List.set_set,<-AT c a];congr 3;simp[fV]
 subst d;refine Cq.wp.no ĳ ?_;show _=_;rw[EN c (by rw[ć,LY];exact Ĉ _)]
theorem Ztz{o:Ord}(i:o.length<=100)(h:o.all lT=true){z:Zf}:(P7 o (List.replicate o.length (List.replicate 8 z),0)).Α (gw (o.map fV)):=by
 rw[Ć]at h;have d:(gw (o.map fV)).length=(List.replicate o.length (List.replicate 8 z)).length:=by unfold gw;rw[List.length_map,List.length_map,List.length_replicate]
 refine Cq.Zn o.length (λk s=>s=(eZ (gw (o.map fV)) (List.replicate o.length (List.replicate 8 z)) k,(k:Int))) (λk s f e=>?_) (λs e=>?_) rfl
 .subst e;have a:k<(List.replicate o.length (List.replicate 8 z)).length:=by rw[Ĺ];exact f
  have c:k<(eZ (gw (o.map fV)) (List.replicate o.length (List.replicate 8 z)) k).length:=by rw[SE d];exact a
  have g:(eZ (gw (o.map fV)) (List.replicate o.length (List.replicate 8 z)) k)[k]=List.replicate 8 z:=by have:=LJ d a;rw[Ą c]at this;rw[Ů this,List.getElem_replicate]
  refine Cq.wp.yes ŉ ⟨_,Μ f,Cq.eM (ZwZ (h _ (Ă _)) c g) ?_⟩;show _=_;rw[ψ ŉ,<-AT d a];congr 3;simp[gw]
 subst e;refine Cq.wp.no ŉ ?_;show _=_;rw[EN d (by rw[d,Ĺ];exact Ĉ _)]
def fm(i:Nat):Mq->Nat
 |[]=>0
 |r::l=>if(r.getD i (0,1)).1=0 then fm i l+1 else 0
theorem LL(i:Nat):∀l:Mq,fm i l<=l.length
 |[]=>Ĉ _
 |x::l=>by have:=LL i l;unfold fm;split<;>simp only[Ě]<;>omega
theorem Te{i:Nat}:∀{l:Mq}{n:Nat}(h:n<l.length),n<fm i l->(l[n].getD i (0,1)).1=0
 |x::l,0,_,h=>by
  unfold fm at h;split at h
  .assumption
  omega
 |x::l,n+1,a,h=>by
  unfold fm at h;split at h
  .exact Te (l:=l) (by simpa using a) ŉ
  omega
theorem Tf{i:Nat}:∀{l:Mq}(h:fm i l<l.length),(l[fm i l].getD i (0,1)).1≠0
 |x::l,h=>by
  by_cases a:(x.getD i (0,1)).1=0
  .have e:fm i (x::l)=fm i l+1:=ą a;simp only[e,x6];exact Tf (l:=l) (by rw[e]at h;simpa using h)
  have e:fm i (x::l)=0:=ā a;simp only[e,dI];exact a
def nZ(V:Mq):Bool:=V.all λr=>decide (r.length=8)&&r.all jI
theorem Zw3{V:Mq}(h:nZ V=true){r:Ŀ Qn}(hr:r∈V):r.length=8/\∀x∈r,jI x=true:=by have:=Ć.1 h r hr;rw[ĉ,Ć]at this;exact⟨ĥ this.1,this.2⟩
theorem pQ{r:Ŀ Qn}{i:Nat}(h:i<r.length):r.getD i (0,1)=r[i]:=by rw[Ģ,Ą h];rfl
theorem ZwT{V:Mq}(n:V.length<=100)(h:nZ V=true){i:Nat}(hi:i<8):(ZN (gw V) (i:Int)).Α (if fm i V=V.length then -1 else(fm i V:Int)):=by
 have l:=LL i V;have d:(gw V).length=V.length:=ć _;have g:∀k (c:k<V.length),(JZ (V[k].map Ν) (i:Int)).Α (decide (¬oZ (V[k].getD i (0,1))=0)):=λk c=>by obtain⟨p,m⟩:=Zw3 h (Ă c);have B2:i<V[k].length:=ŉ;rw[pQ B2];exact⟨_,ug B2,_,(Mx (m _ (Ă _))).2,rfl⟩
 show(Cq.next _ _).wp _;refine Cq.Zn (fm i V) (λk s=>s=(k:Int)) (λk s c f=>?_) (λs f=>?_) rfl
 .subst f;refine Cq.wp.yes (by rw[d];omega) ⟨V[k].map Ν,⟨ŉ,by simp[gw,show k<V.length by omega]⟩,_,g k ŉ,Cq.wp.no (by rw[Fl.2 (Te ŉ c)];decide) ?_⟩;show _=_;rw[ψ ŉ]
 subst f;by_cases j:fm i V=V.length
 .rw[ą j];exact Cq.wp.no (by rw[d];omega) rfl
 rw[ā j];have a:fm i V<V.length:=ŉ;exact Cq.wp.yes (by rw[d];omega) ⟨V[fm i V].map Ν,⟨ŉ,by simp[gw,a]⟩,_,g _ a,Cq.wp.yes (ă λe=>Tf a (Fl.1 e)) rfl⟩
def jc(row rr:Ŀ Qn)(i:Nat):Ŀ Qn:=row.take i++List.zipWith (λx y=>my x (hC (hC (row.getD i (0,1)) (kg (rr.getD i (0,1)))) y)) (row.drop i) (rr.drop i)
def ni(row rr:Ŀ Qn)(i:Nat):Bool:=decide (row.length=8)&&decide (rr.length=8)&&row.all jI&&rr.all jI&&decide ((rr.getD i (0,1)).1≠0)&&jI (hC (row.getD i (0,1)) (kg (rr.getD i (0,1))))&&(rr.drop i).all λy=>jI (hC (hC (row.getD i (0,1)) (kg (rr.getD i (0,1)))) y)
theorem Fc{row rr:Ŀ Qn}{i:Nat}(a:row.length=8)(h2:rr.length=8):(jc row rr i).length=8:=by unfold jc;rw[Ā,č,List.length_zipWith,ľ,ľ];omega
theorem Zx4{row rr:Ŀ Qn}{i j:Nat}(a:row.length=8)(h2:rr.length=8)(hi:i<=j)(d:j<8):(jc row rr i)[j]'(by rw[Fc a h2];exact d)=my row[j] (hC (hC (row.getD i (0,1)) (kg (rr.getD i (0,1)))) rr[j]):=by
 have c:(jc row rr i)[j]?=some (my row[j] (hC (hC (row.getD i (0,1)) (kg (rr.getD i (0,1)))) rr[j])):=by unfold jc;rw[ģ (by rw[č];omega),č,List.getElem?_zipWith,ŧ,ŧ,show i+(j-min i row.length)=j by omega,Ą ŉ,Ą ŉ]
 rw[Ą (by rw[Fc a h2];exact d)]at c;exact Ů c
theorem Zwj{V:Ŀ (Ŀ Zf)}{r k i:Nat}{row rr:Ŀ Qn}{e:Int}(j:k<V.length)(hr:r<V.length)(l:k≠r)(hi:i<8)(p:V[k]=row.map Ν)(h2:V[r]=rr.map Ν)(h:ni row rr i=true):
  (P6 (r:Int) (k:Int) (Ν (hC (row.getD i (0,1)) (kg (rr.getD i (0,1)))),e) (V,(i:Int))).Α (V.set k ((jc row rr i).map Ν)):=by
 unfold ni at h
 simp only[ĉ,Ę,Ć]at h
 obtain⟨⟨⟨⟨⟨⟨c,n⟩,u⟩,q4⟩,q5⟩,v⟩,x⟩:=h
 have a:((jc row rr i).map Ν).length=(row.map Ν).length:=by rw[ć,ć,Fc c n,c]
 have d:eZ ((jc row rr i).map Ν) (row.map Ν) i=row.map Ν:=by unfold eZ jc;rw[Ī,aaO (by rw[ć,č];omega),List.map_take,List.take_take,Nat.min_self,Ń]
 refine Cq.Zn (8-i) (λt s=>s=(V.set k (eZ ((jc row rr i).map Ν) (row.map Ν) (i+t)),((i+t:Nat):Int))) (λt s y m=>?_) (λs m=>?_) (by rw[ej,d,<-p,LZ j])
 .subst m
  have f:i+t<(row.map Ν).length:=by rw[ć];omega
  have g:i+t<rr.length:=ŉ
  have q:rr[i+t]∈rr.drop i:=by rw[ķ];exact⟨t,by rw[ľ];omega,by rw[List.getElem_drop]⟩
  refine Cq.wp.yes ŉ ⟨_,Gc j _,_,vm a f,V[r],YV hr l _,Ν rr[i+t],by rw[h2];exact ug g,_,ZBy v (q4 _ (Ă _)),Ν (my row[i+t] (hC (hC (row.getD i (0,1)) (kg (rr.getD i (0,1)))) rr[i+t])),?_,_,Gc j _,_,vm a f,?_⟩
  .rw[Ū]
   exact ZBz (u _ (Ă _)) (x _ q)
  show _=_
  rw[ψ ŉ,Ē,Ē,List.set_set,<-š,<-AT a f]
  congr 3
  rw[Ū,Zx4 c n ŉ ŉ]
 subst m
 refine Cq.wp.no ŉ ?_
 show _=_
 rw[EN a (by rw[ć,Fc c n];omega)]
theorem yY(V:Mq):(gw V).length=V.length:=ć _
theorem y9{V:Mq}{k:Nat}(a:k<V.length):(0:Int)<=(k:Int)/\(gw V)[(k:Int).toNat]?=some (V[k].map Ν):=⟨ŉ,by simp[gw,a]⟩
theorem LU(V:Mq)(k:Nat)(r:Ŀ Qn):(gw V).set k (r.map Ν)=gw (V.set k r):=by unfold gw;rw[List.map_set]
theorem getDM{V:Mq}{k:Nat}(h:k<V.length):V.getD k []=V[k]:=by rw[Ģ,Ą h];rfl
def fI(M:Mq)(r i:Nat):Nat->Mq
 |0=>M
 |t+1=>(fI M r i t).set (r+1+t) (jc ((fI M r i t).getD (r+1+t) []) ((fI M r i t).getD r []) i)
def nX(M:Mq)(r i:Nat):Bool:=(List.range (M.length-(r+1))).all λt=>ni ((fI M r i t).getD (r+1+t) []) ((fI M r i t).getD r []) i
theorem KG(M:Mq)(r i:Nat):∀t,(fI M r i t).length=M.length
 |0=>rfl
 |t+1=>by have:=KG M r i t;unfold fI;rw[Ŗ,this]
theorem Ztw{M:Mq}{r i:Nat}(q:M.length<=100)(hr:r<M.length)(hi:i<8)(h:nX M r i=true):
  (P5 (r:Int) (i:Int) (gw M,((r+1:Nat):Int))).Α (gw (fI M r i (M.length-(r+1)))):=by
 refine Cq.Zn (M.length-(r+1)) (λt s=>s=(gw (fI M r i t),((r+1+t:Nat):Int))) (λt s m f=>?_) (λs f=>?_) rfl
 .subst f
  have c:=Ć.1 h t (ĺ.2 m)
  have j:fI M r i (t+1)=(fI M r i t).set (r+1+t) (jc ((fI M r i t).getD (r+1+t) []) ((fI M r i t).getD r []) i):=rfl
  have p:=KG M r i t
  generalize fI M r i t=X at *
  have d:r+1+t<X.length:=ŉ
  have a:r<X.length:=ŉ
  rw[getDM d,getDM a]at c j
  have oo:=c
  unfold ni at oo
  simp only[ĉ,Ę,Ć]at oo
  obtain⟨⟨⟨⟨⟨⟨u,v⟩,n⟩,q4⟩,q5⟩,x⟩,y⟩:=oo
  have l:i<X[r+1+t].length:=ŉ
  have g:i<X[r].length:=ŉ
  have hp:=Zwj (V:=gw X) (e:=0) (r:=r) (k:=r+1+t) (i:=i) (row:=X[r+1+t]) (rr:=X[r]) (by rw[yY];exact d) (by rw[yY];exact a) ŉ hi (by simp[gw]) (by simp[gw]) c
  rw[pQ l,pQ g]at hp
  rw[pQ g]at q5
  refine Cq.wp.yes (by rw[yY];omega) ⟨_,y9 d,_,ug l,_,y9 a,_,ug g,_,ZBB (n _ (Ă _)) (q4 _ (Ă _)) q5,Cq.eM hp ?_⟩
  show _=_
  rw[ψ ŉ,LU,j]
  rfl
 subst f
 refine Cq.wp.no (by rw[yY,KG];omega) ?_
 rfl
def kh(M:Mq)(r f:Nat):Mq:=(M.set r (M.getD (r+f) [])).set (r+f) (M.getD r [])
def qk(s:Mq×Nat)(i:Nat):Mq×Nat:=if fm i (s.1.drop s.2)=(s.1.drop s.2).length then s else(fI (kh s.1 s.2 (fm i (s.1.drop s.2))) s.2 i (s.1.length-(s.2+1)),s.2+1)
def sX(s:Mq×Nat)(i:Nat):Bool:=nZ s.1&&decide (s.2<=s.1.length)&&decide (s.1.length<=100)&&(decide (fm i (s.1.drop s.2)=(s.1.drop s.2).length) || nX (kh s.1 s.2 (fm i (s.1.drop s.2))) s.2 i)
def kA(M:Mq):Nat->Mq×Nat
 |0=>(M,0)
 |i+1=>qk (kA M i) i
def qa(M:Mq):Bool:=(List.range 8).all λi=>sX (kA M i) i
theorem Zvq{V:Mq}(h:nZ V=true)(k:Nat):nZ (V.drop k)=true:=Ć.2 λr hr=>Ć.1 h r (List.mem_of_mem_drop hr)
theorem ZvW{o:Ord}(x:o.length<=100)(v:o.all lT=true)(h:qa (o.map fV)=true):(ER o).Α ((kA (o.map fV) 8).2:Int):=by
 refine⟨⟨ŉ,ŉ⟩,?_⟩;rw[Ē];refine Cq.eM (Ztz x v) ?_;show(Cq.next _ _).wp _;generalize o.map fV=M at h;refine Cq.Zn 8 (λi s=>s=(gw (kA M i).1,((kA M i).2:Int),(i:Int))) (λi s hi d=>?_) (λs d=>?_) rfl
 .subst d;have k:=Ć.1 h i (ĺ.2 hi);have t:kA M (i+1)=qk (kA M i) i:=rfl;rw[t];generalize kA M i=S at *;obtain⟨X,r⟩:=S;unfold sX at k;simp only[ĉ,Ę]at k;obtain⟨⟨⟨n,h2⟩,h3⟩,g⟩:=k;dsimp only at n h2 h3 g⊢;have q:=ZwT (V:=X.drop r) (by rw[ľ];omega) (Zvq n r) hi;have u:gw (X.drop r)=(gw X).drop r:=by unfold gw;rw[List.map_drop]
  rw[u]at q;have l:=LL i (X.drop r);refine Cq.wp.yes ŉ ⟨⟨ŉ,by rw[yY];omega⟩,_,by rw[Ē];exact q,?_⟩;by_cases c:fm i (X.drop r)=(X.drop r).length
  .rw[ą c];refine Cq.wp.yes ĳ ?_;show _=_;rw[ψ ŉ];have j:qk (X,r) i=(X,r):=ą c;rw[j]
  rw[ā c];have j:qk (X,r) i=(fI (kh X r (fm i (X.drop r))) r i (X.length-(r+1)),r+1):=ā c;rw[Ĵ,Ę]at g;have g:=g.resolve_left c;rw[ľ]at l c;generalize fm i (X.drop r)=f at *;have a:r+f<X.length:=ŉ;have hr:r<X.length:=ŉ;have y:i64.wrap ((r:Int)+(f:Int))=((r+f:Nat):Int):=by rw[wrap64 ŉ];omega
  have d:kh X r f=(X.set r X[r+f]).set (r+f) X[r]:=by unfold kh;rw[getDM a,getDM hr]
  have m:(kh X r f).length=X.length:=by rw[d,Ŗ,Ŗ]
  have p:=Ztw (M:=kh X r f) (r:=r) (i:=i) ŉ ŉ hi g;rw[m]at p;refine Cq.wp.no ŉ ?_;rw[y];refine⟨_,y9 a,_,y9 hr,_,y9 hr,(if r=r+f then X[r+f].map Ν else X[r+f].map Ν),⟨ŉ,?_⟩,?_⟩
  .rw[Ē,Ē,aad];by_cases e:r=r+f
   .rw[ą e,ą (by rw[yY];exact hr),ą e]
   rw[ā e,ā e];have:=(y9 a).2;rwa [Ē]at this
  rw[Ē,Ē,LU,LU,<-d,ψ ŉ];refine Cq.eM p ?_;show _=_;rw[ψ ŉ,ψ ŉ,j]
 subst d;exact Cq.wp.no ĳ rfl
end Go.EL

namespace Go.EL
open Go.IntKind (i8 i16 i32 i64 u8 u16 u32 u64)
open Go Go.RowKit
theorem gD.b{n:Nat}{π:M}(h:gD n π):jA n π=true:=by unfold jA;simp only[ĉ,Ę];exact⟨⟨h.perm.ou,h.perm.inj⟩,h.fix⟩
theorem SM(π:M):à π []=[]:=rfl
theorem Zyp{n:Nat}(a:1<=n/\n<=4){p:Ù}(hp:ω p):à (λi=>(i.val:Int)) p=p:=by
 have hi:=(Zz3 a).perm;refine KO hi hp.ord hp.ord (abE ?_);refine((ŭ λt _=>?_).trans (List.map_id _)).symm;show jf _ t=t;unfold jf;have:fx (λi:Fin 8=>(i.val:Int)) t.m=t.m:=by funext j;exact tZ hi _ j j rfl
 rw[this]
end Go.EL

namespace Go.EL
open Go.IntKind (i8 i16 i32 i64 u8 u16 u32 u64)
open Go Go.RowKit
def oX(m:Nat):Fin 8->Int:=λi=>if m.testBit i.val then 1 else 0
def jg(k:Nat)(w:Int):Fin 8->Int:=λi=>if i.val=k then w else 0
def oW:Ord:=[oX 255,jg 7 (-1),jg 6 (-1),jg 5 (-1),jg 4 (-1),jg 3 (-1),jg 2 (-1),jg 1 (-1)]
def gQ:Ord:=(List.range 8).map λk=>jg k 1
def OB:Ord:=[λi=>if i.val=0 then 2 else if i.val=1 then 3 else 1]
def OC:Ord:=[λi=>if i.val<2 then 1 else 0,λi=>if i.val=0 then 1 else if i.val=1 then 0 else if i.val=2 then 2 else 1]
def lV(k:Nat):Ord:=match k % 8 with
 |0=>[]
 |1=>[oX 255]
 |2=>oW
 |3=>oW
 |4=>OB
 |5=>OC
 |_=>oX (k / 8 % 16)::oW
theorem U9:EE.Α oW:=Zr (n:=20) (by decide +kernel)
theorem TL:(á 0 15 λm=>runs 20 (Js m) (oX m.toNat::oW))=true:=by decide +kernel
theorem Zvj:EX.Α [oX 255]:=Zr (n:=5) (by decide +kernel)
theorem ZBc:([ζ (ζ (ζ (ζ (ζ (ζ (ζ (ζ (λ_=>0) 0 2) 1 3) 2 1) 3 1) 4 1) 5 1) 6 1) 7 1]:Ord)=OB:=by decide +kernel
theorem ZBd:([ζ (ζ (ζ (ζ (ζ (ζ (ζ (ζ (λ_=>0) 0 1) 1 1) 2 0) 3 0) 4 0) 5 0) 6 0) 7 0,ζ (ζ (ζ (ζ (ζ (ζ (ζ (ζ (λ_=>0) 0 1) 1 0) 2 2) 3 1) 4 1) 5 1) 6 1) 7 1]:Ord)=OC:=by decide +kernel
theorem TC{k:Nat}(h:k<=255):(xj (k:Int)).Α (lV k):=by
 have f:Int.tmod (k:Int) 8=((k % 8:Nat):Int):=rfl;have a:Int.tmod (u8.wrap (Int.tdiv (k:Int) 8)) 16=((k / 8 % 16:Nat):Int):=by have c:Int.tdiv (k:Int) 8=((k / 8:Nat):Int):=rfl;rw[c,HM,show((k / 8:Nat):Int) % 256=((k / 8:Nat):Int) by omega];rfl
 have d:=x8 k (show 0<8 by decide);have e:=x8 (k / 8) (show 0<16 by decide);unfold xj EF lV;rw[f];generalize g:k % 8=j at *;match j,d with
 |0,_=>exact Cq.wp.yes rfl ⟨_,rfl,rfl⟩
 |1,_=>exact Cq.wp.no ĳ (Cq.wp.yes rfl ⟨_,Zvj,rfl⟩)
 |2,_=>exact Cq.wp.no ĳ (Cq.wp.no ĳ (Cq.wp.yes rfl (Cq.wp.yes rfl ⟨_,U9,rfl⟩)))
 |3,_=>exact Cq.wp.no ĳ (Cq.wp.no ĳ (Cq.wp.no ĳ (Cq.wp.yes rfl ⟨_,U9,rfl⟩)))
 |4,_=>
  refine Cq.wp.no ĳ (Cq.wp.no ĳ (Cq.wp.no ĳ (Cq.wp.no ĳ ?_)));exact Cq.wp.yes rfl ZBc
 |5,_=>
  refine Cq.wp.no ĳ (Cq.wp.no ĳ (Cq.wp.no ĳ (Cq.wp.no ĳ ?_)));exact Cq.wp.no ĳ (Cq.wp.yes rfl ZBd)
 |6,_=>
  refine Cq.wp.no ĳ (Cq.wp.no ĳ (Cq.wp.no ĳ (Cq.wp.no ĳ ?_)));rw[a];exact Cq.wp.no ĳ (Cq.wp.no ĳ ⟨_,Zr (Zq TL ŉ ŉ),rfl⟩)
 |7,_=>
  refine Cq.wp.no ĳ (Cq.wp.no ĳ (Cq.wp.no ĳ (Cq.wp.no ĳ ?_)));rw[a];exact Cq.wp.no ĳ (Cq.wp.no ĳ ⟨_,Zr (Zq TL ŉ ŉ),rfl⟩)
def kO:Ŀ Ord:=[[],[oX 255],oW,OB,OC]++(List.range 16).map λm=>oX m::oW
theorem T7{k:Nat}:lV k∈kO:=by
 unfold lV;have h2:=x8 (k / 8) (show 0<16 by decide);unfold kO;rw[Ĩ];split
 .exact .inl ß
 .exact .inl ß
 .exact .inl ß
 .exact .inl ß
 .exact .inl ß
 .exact .inl ß
 exact .inr (Ğ.2 ⟨_,ĺ.2 h2,rfl⟩)
def eJ(o:Ord):Ord:=if(ô o o.length).length=8 then o else o++gQ
def dN(π:Fin 8->Int)(o:Ord):Ord:=o.map (fx π)
def r0(o:Ord)(k:Fin 8):Bool:=match(o.map λm=>m k).find? λx=>x != 0 with
 |some x=>decide (0<x)
 |none=>true
def mq(o:Ord):Bool:=o.all lT&&decide (o.length<=24)&&decide (∀k,r0 o k=true)&&sJ o&&qa (o.map fV)&&decide ((kA (o.map fV) 8).2=(ô o o.length).length)
theorem Zz0:(kO.all λo=>mq o&&decide ((ô o o.length).length=8\/o.length<=16))=true:=by decide +kernel
end Go.EL

namespace Go.EL
open Go.IntKind (i8 i16 i32 i64 u8 u16 u32 u64)
open Go Go.RowKit
def sE(o:Ord):Bool:=mq o&&Nat.beq (ô o o.length).length 8
def n1(k:Nat):Bool:=((kO.drop (3*k)).take 3).all λo=>(Β 3).all λπ=>sE (dN π (eJ o))
theorem CR:n1 0=true:=by decide +kernel
theorem CS:n1 1=true:=by decide +kernel
theorem CT:n1 2=true:=by decide +kernel
theorem CU:n1 3=true:=by decide +kernel
theorem CV:n1 4=true:=by decide +kernel
theorem CW:n1 5=true:=by decide +kernel
theorem CX:n1 6=true:=by decide +kernel
theorem lX{α:Type}{l:Ŀ α}{p:α->Prop}(k:Nat)(h:∀x∈(l.drop (3*k)).take 3,p x)(h2:∀x∈l.drop (3*(k+1)),p x):∀x∈l.drop (3*k),p x:=λx a=>by
 rw[<-Ń 3 (l.drop (3*k)),Ĩ]at a;rcases a with a|a
 .exact h x a
 rw[abN]at a;exact h2 x a
theorem xB{k:Nat}(h:n1 k=true):∀o∈(kO.drop (3*k)).take 3,∀π∈Β 3,sE (dN π (eJ o))=true:=λo c π a=>Ć.1 (Ć.1 h o c) π a
theorem TU:∀o∈kO,∀π∈Β 3,sE (dN π (eJ o))=true:=
 lX 0 (xB CR)<|lX 1 (xB CS)<|lX 2 (xB CT)<|lX 3 (xB CU)<|lX 4 (xB CV)<|lX 5 (xB CW)<|lX 6 (xB CX) λo a=>by
  have e:kO.drop 21=[]:=by decide +kernel
  have a:o∈kO.drop 21:=a;rw[e]at a;cases a
end Go.EL

namespace Go.EL
open Go.IntKind (i8 i16 i32 i64 u8 u16 u32 u64)
open Go Go.RowKit
def gj(l:Ŀ Int):Int:=match l.find? λx=>x != 0 with
 |some x=>x
 |none=>0
theorem Re(l:Ŀ Int)(x:Int):gj (l++[x])=if gj l=0 then x else gj l:=by
 unfold gj;rw[abk];cases h:l.find? λx=>x != 0 with
 |none=>
  simp only[Option.none_or];rw[ą trivial];by_cases a:x=0
  .subst a;rfl
  rw[List.find?_cons_of_pos (by simpa using a)]
 |some y=>
  have:=aak h;simp only[Option.some_or];rw[ā (by simpa using this)]
theorem Ztv{o:Ord}{k:Fin 8}(h:r0 o k=true):0<=gj (o.map λm=>m k):=by
 unfold r0 at h;unfold gj;cases a:(o.map λm=>m k).find? λx=>x != 0 with
 |some x=>
  rw[a]at h;have:=ĥ h;dsimp only;omega
 |none=>exact Ŝ _
theorem Zvh{l m:Ŀ Int}(h:0<=gj (l++m)):0<=gj l:=by
 unfold gj at h⊢;rw[abk]at h;cases a:l.find? λx=>x != 0 with
 |none=>exact Ŝ _
 |some y=>rw[a]at h;exact h
structure kE (o:Ord):Prop where
 row:∀m∈o,∀k,-1<=m k/\m k<=3
 len:o.length<=24
 VP:∀k:Fin 8,0<=gj (o.map λm=>m k)
theorem kE.of{o:Ord}(h:mq o=true):kE o:=by unfold mq at h;simp only[ĉ,Ę,Ć]at h;obtain⟨⟨⟨⟨⟨a,h2⟩,h3⟩,_⟩,_⟩,_⟩:=h;exact⟨λm c k=>ĥ (a m c) k,h2,λk=>Ztv (h3 k)⟩
theorem P9{o:Ord}{i:Nat}(hi:i<o.length)(f:(Fin 8->Int)->Int):(o.take (i+1)).map f=(o.take i).map f++[f o[i]]:=by rw[ċ hi,Ī];rfl
theorem Ey{o:Ord}(h:kE o):(yK o).Α true:=by
 have g:=h.len;refine Cq.wp.no ŉ ?_;show(Cq.next _ _).wp _;refine Cq.Zn 8 (λk s=>s=(k:Int)) (λk s a c=>?_) (λs c=>?_) rfl
 .subst c;refine Cq.wp.yes ŉ ?_;show(Cq.next _ _).wp _;refine Cq.Zn o.length (λi s=>s=(gj ((o.take i).map λm=>m ⟨k,a⟩),(i:Int))) (λi s hi c=>?_) (λs c=>?_) rfl
  .subst c;have hr:=h.row _ (Ă hi) ⟨k,a⟩;have f:Ε o[i] (k:Int)=o[i] ⟨k,a⟩:=Ô a;refine Cq.wp.yes ŉ ⟨_,Μ hi,⟨ŉ,ŉ⟩,Cq.wp.no (by rw[f];omega) ⟨_,Μ hi,⟨ŉ,ŉ⟩,Cq.wp.no (by rw[f];omega) ?_⟩⟩;have e:=Re ((o.take i).map λm=>m ⟨k,a⟩) (o[i] ⟨k,a⟩);rw[<-P9 hi (λm=>m ⟨k,a⟩)]at e;by_cases d:gj ((o.take i).map λm=>m ⟨k,a⟩)=0
   .refine Cq.wp.yes d ⟨_,Μ hi,⟨ŉ,ŉ⟩,?_⟩;show _=_;rw[ψ ŉ,f,e,ą d]
   refine Cq.wp.no d ?_;show _=_;rw[ψ ŉ,e,ā d]
  subst c;refine Cq.wp.no ŉ ?_;have:=h.VP ⟨k,a⟩;rw[Ĥ];refine Cq.wp.no ŉ ?_;show _=_;rw[ψ ŉ]
 subst c;exact Cq.wp.no ĳ rfl
def sR(l:Ord):Fin 8->Bool:=λk=>l.any λm=>decide (¬m k=0)
def jB(b:Fin 8->Bool)(m:Fin 8->Int)(n:Nat):Fin 8->Bool:=λk=>if k.val<n then b k || decide (¬m k=0)else b k
theorem B1{f:Fin 8->Bool}{k:Nat}(a:k<8):Ε f (k:Int)=f ⟨k,a⟩:=y8 f (by rw[Ē];exact a)
theorem ZvK{b:Fin 8->Bool}{m:Fin 8->Int}{n:Nat}(a:n<8):ζ (jB b m n) n (b ⟨n,a⟩ || decide (¬m ⟨n,a⟩=0))=jB b m (n+1):=by
 funext k;unfold ζ jB;by_cases e:k.val=n
 .have:k=⟨n,a⟩:=abg e;subst this;rw[ą rfl,ą (Ũ _)]
 rw[ā e];by_cases h:k.val<n
 .rw[ą h,ą ŉ]
 rw[ā h,ā ŉ]
theorem ZyG{m:Fin 8->Int}{b:Fin 8->Bool}(h:∀k,-1<=m k/\m k<=3)(j:∀k,m k<0->b k=true):(PI m (0,b)).Α (.inr (jB b m 8)):=by
 refine Cq.Zn 8 (λk s=>s=((k:Int),jB b m k)) (λk s c d=>?_) (λs d=>?_) (by show _=_;congr 1)
 .subst d;have hr:=h ⟨k,c⟩;have f:Ε m (k:Int)=m ⟨k,c⟩:=Ô c;have d:Ε (jB b m k) (k:Int)=b ⟨k,c⟩:=by rw[B1 c];unfold jB;rw[if_neg (Nat.lt_irrefl _)]
  have i:(D5 m (k:Int) (jB b m k)).wp (Out (λs'=>s'=(((k+1:Nat):Int),jB b m (k+1))) λo=>o=.inr (jB b m 8)):=by
   refine⟨⟨ŉ,ŉ⟩,?_⟩;have e:=ZvK (b:=b) (m:=m) c;by_cases a:b ⟨k,c⟩=true
   .refine Cq.wp.yes (by rw[d];exact a) ⟨⟨ŉ,ŉ⟩,?_⟩;show _=_;rw[ψ ŉ,<-e,a];rfl
   refine Cq.wp.no (by rw[d];exact a) ⟨⟨ŉ,ŉ⟩,?_⟩;show _=_;rw[ψ ŉ,<-e,ź.2 a,f];rfl
  refine Cq.wp.yes ŉ ⟨⟨ŉ,ŉ⟩,Cq.wp.no (by rw[f];omega) (Cq.wp.no (by rw[f];omega) ?_)⟩;by_cases g:m ⟨k,c⟩<0
  .refine Cq.wp.yes (by rw[f];exact g) ⟨⟨ŉ,ŉ⟩,Cq.wp.no (by rw[d,j _ g];decide) i⟩
  exact Cq.wp.no (by rw[f];exact g) i
 subst d;exact Cq.wp.no ĳ rfl
theorem E5{o:Ord}(h:kE o):(yw o).Α true:=by
 have l:=h.len;refine Cq.wp.no ŉ ?_;show(Cq.next _ _).wp _;refine Cq.Zn o.length (λi s=>s=((i:Int),sR (o.take i))) (λi s hi e=>?_) (λs e=>?_) rfl
 .subst e;refine Cq.wp.yes ŉ ⟨_,Μ hi,Cq.eM (ZyG (h.row _ (Ă hi)) λk j=>?_) ?_⟩
  .have a:=h.VP k;rw[<-Ń (i+1) o,Ī]at a;have a:=Zvh a;rw[P9 hi (λm=>m k),Re]at a;by_cases c:gj ((o.take i).map λm=>m k)=0
   .rw[ą c]at a;omega
   unfold sR;rw[Ű];unfold gj at c;cases d:((o.take i).map λm=>m k).find? λx=>x != 0 with
   |none=>rw[d]at c;exact absurd rfl c
   |some y=>
    have f:=ei d;have h2:=aak d;obtain⟨m,g,rfl⟩:=Ğ.1 f;exact⟨m,g,by simpa using h2⟩
  show _=_;rw[ψ ŉ,ċ hi];congr 2;funext k;unfold jB sR;rw[ą k.isLt,List.any_append];simp
 subst e;exact Cq.wp.no ŉ rfl
theorem Zyj:(á 0 7 λk=>runs 20 (KM (u8.wrap (1*2 ^ (min k.toNat u8.bits)))) (jg k.toNat 1))=true:=by decide +kernel
theorem ZyO{k:Nat}(a:k<8):(FI (k:Int) 1).Α (jg k 1):=⟨⟨ŉ,ŉ⟩,by
 show _=_;funext i;unfold ζ jg;rw[Ē]⟩
theorem QV(o:Ord){k:Nat}(a:k<8):o++gQ.take (k+1)=(o++gQ.take k)++[jg k 1]:=by
 have c:k<gQ.length:=by simpa[gQ]using a
 rw[ċ c,Đ];simp[gQ]
theorem Zxh{o:Ord}(h:mq o=true):(ER o).Α ((ô o o.length).length:Int)/\(FH o).Α ((ô o o.length).length:Int):=by unfold mq at h;simp only[ĉ,Ę]at h;obtain⟨⟨⟨⟨⟨a,h2⟩,_⟩,c⟩,d⟩,e⟩:=h;exact⟨by have:=ZvW ŉ a d;rwa [e]at this,Zv4 ŉ c⟩
theorem ZxM{o:Ord}(h:mq o=true)(j:(ô o o.length).length=8\/o.length<=16):(KL o).Α (eJ o,0)/\(Lv o).Α (eJ o,0):=by
 have i:=kE.of h;obtain⟨m,n⟩:=Zxh h;have p:=i.len;have d:([]++o).length<=small:=by rw[ļ];simp only[small];omega
 have l:gQ.take 8=gQ:=ě (by simp[gQ]);constructor
 .refine⟨_,E5 i,Cq.wp.no ĳ ⟨o,⟨λe=>by rw[e];rfl,d,rfl⟩,_,m,?_⟩⟩;by_cases a:(ô o o.length).length=8
  .refine Cq.wp.yes ŉ ?_;show _=_;unfold eJ;rw[ą a]
  have g:=j.resolve_left a;refine Cq.wp.no ŉ (Cq.wp.no (by rw[wrap64 ŉ];omega) ?_);show(Cq.next _ _).wp _;refine Cq.Zn 8 (λk s=>s=(o++gQ.take k,(k:Int))) (λk s f c=>?_) (λs c=>?_) (by show _=_;simp)
  .subst c;have:=Zr (Zq Zyj (x:=(k:Int)) ŉ ŉ);refine Cq.wp.yes ŉ ⟨ŉ,_,this,by simp only[Ā,č,Ě,Ļ];simp only[small];omega,?_⟩;show _=_;rw[ψ ŉ,QV o f];rfl
  subst c;refine Cq.wp.no ĳ ?_;show _=_;unfold eJ;rw[ā a,l]
 refine⟨_,Ey i,Cq.wp.no ĳ ⟨d,_,n,?_⟩⟩;by_cases a:(ô o o.length).length=8
 .refine Cq.wp.yes ŉ ?_;show _=_;unfold eJ;rw[ą a];rfl
 have g:=j.resolve_left a;refine Cq.wp.no ŉ (Cq.wp.no ŉ ?_);show(Cq.next _ _).wp _;refine Cq.Zn 8 (λk s=>s=(o++gQ.take k,(k:Int))) (λk s f c=>?_) (λs c=>?_) (by show _=_;simp)
 .subst c;refine Cq.wp.yes ŉ ⟨_,ZyO f,by simp only[Ā,č,Ě,Ļ];simp only[small];omega,?_⟩;show _=_;rw[ψ ŉ,QV o f]
 subst c;refine Cq.wp.no ĳ ?_;show _=_;unfold eJ;rw[ā a,l]
theorem Zyw{π:Fin 8->Int}(h:Ì π){V:Ord}{k:Nat}(d:k<V.length)(e:V[k]=λ_=>0)(m:Fin 8->Int):(Pj π (k:Int) m (V,0)).Α (V.set k (fx π m)):=by
 refine Cq.Zn 8 (λj s=>s=(V.set k (ef π m j),(j:Int))) (λj s a c=>?_) (λs c=>?_) (by show _=_;rw[show ef π m 0=V[k]from e.symm,LZ d];rfl)
 .subst c;have r:=h.ou ⟨j,a⟩;refine Cq.wp.yes ŉ ⟨⟨ŉ,ŉ⟩,⟨ŉ,ŉ⟩,_,Gc d _,by rw[Ô a];exact r,?_⟩;show _=_;rw[ψ ŉ,Ô a,Ô a,Ē,List.set_set];simp only[ef,ŷ a]
 subst c;exact Cq.wp.no ĳ rfl
theorem SL{π:Fin 8->Int}(c:Ì π){o:Ord}(h:mq o=true)(v:(ô o o.length).length=8\/o.length<=16):(JY o π).Α (dN π (eJ o),0)/\(Kg o π).Α (dN π (eJ o),0):=by
 have t:=kE.of h;obtain⟨f1,f2⟩:=ZxM h v;have x:(eJ o).length<=40:=by
  have:=t.len;unfold eJ;split
  .omega
  rw[Ā];simp[gQ];omega
 generalize eJ o=F at *;constructor
 .refine⟨_,E5 t,Cq.wp.no ĳ ?_⟩;show(Cq.next _ _).wp _;refine Cq.Zn 8 (λk s=>∃p:Fin 8->Bool,s=((k:Int),p)/\∀j,p j=true->∃i:Fin 8,i.val<k/\(j.val:Int)=π i) (λk s d a=>?_) (λs a=>?_) ⟨_,rfl,λj f=>by cases f⟩
  .obtain⟨p,rfl,q⟩:=a;have r:=c.ou ⟨k,d⟩;refine Cq.wp.yes ŉ ⟨⟨ŉ,ŉ⟩,?_⟩;rw[Ô d];refine Cq.wp.no ŉ (Cq.wp.no ŉ ⟨r,Cq.wp.no (Gb c d q) ⟨r,?_⟩⟩);rw[ψ ŉ];exact⟨_,rfl,Fk c d q⟩
  obtain⟨p,rfl,q⟩:=a;refine Cq.wp.no ĳ ?_;show(Pk o π).wp _;refine⟨_,f1,Cq.wp.no (λe=>e rfl) ⟨⟨ŉ,by show((F.length:Nat):Int)<=1000000;omega⟩,?_⟩⟩;rw[Ē];show(Cq.next _ _).wp _;have n:(dN π F).length=(List.replicate F.length (λ_:Fin 8=>(0:Int))).length:=by unfold dN;rw[List.length_map,List.length_replicate]
  refine Cq.Zn F.length (λk s=>s=(eZ (dN π F) (List.replicate F.length (λ_=>0)) k,(k:Int))) (λk s d a=>?_) (λs a=>?_) rfl
  .subst a;have g:k<(List.replicate F.length (λ_:Fin 8=>(0:Int))).length:=by rw[Ĺ];exact d
   have l:k<(eZ (dN π F) (List.replicate F.length (λ_=>0)) k).length:=by rw[SE n];exact g
   have u:(eZ (dN π F) (List.replicate F.length (λ_=>0)) k)[k]=λ_=>0:=by have:=LJ n g;rw[Ą l]at this;rw[Ů this,List.getElem_replicate]
   refine Cq.wp.yes (by show(k:Int)<((F.length:Nat):Int);omega) ⟨_,Μ d,Cq.eM (Zyw c l u F[k]) ?_⟩;show _=_;rw[ψ ŉ,<-AT n g];congr 3;simp[dN]
  subst a;refine Cq.wp.no (by show ¬(F.length:Int)<((F.length:Nat):Int);omega) ?_;show _=_;rw[EN n (by rw[n,Ĺ];exact Ĉ _)]
 refine⟨_,Ey t,Cq.wp.no ĳ ⟨_,ZlQ c,Cq.wp.no ĳ ⟨_,f2,Cq.wp.no (λe=>e rfl) ?_⟩⟩⟩;show(Cq.next _ _).wp _;refine Cq.Zn F.length (λk s=>s=(dN π (F.take k),(k:Int))) (λk s d a=>?_) (λs a=>?_) rfl
 .subst a;have m:(PB π (F,0) (k:Int) (0,λ_=>0)).Α (fx π F[k]):=by
   refine Cq.Zn 8 (λj s=>s=((j:Int),ef π F[k] j)) (λj s f a=>?_) (λs a=>?_) rfl
   .subst a;have r:=c.ou ⟨j,f⟩;refine Cq.wp.yes ŉ ⟨⟨ŉ,ŉ⟩,F[k],Μ d,⟨ŉ,ŉ⟩,by rw[Ô f];exact r,?_⟩;show _=_;rw[ψ ŉ,Ô f,Ô f];simp only[ef,ŷ f]
   subst a;exact Cq.wp.no ĳ rfl
  refine Cq.wp.yes (by show(k:Int)<((F.length:Nat):Int);omega) (Cq.eM m ⟨by unfold dN;simp only[List.length_append,List.length_map,List.length_take,List.length_cons,List.length_nil];simp only[small];omega,?_⟩);show _=_;rw[ψ ŉ,ċ d];unfold dN;rw[Ī];rfl
 subst a;refine Cq.wp.no (by show ¬(F.length:Int)<((F.length:Nat):Int);omega) ?_;show _=_;rw[Ĥ]
end Go.EL

namespace Go.EL
open Go.IntKind (i8 i16 i32 i64 u8 u16 u32 u64)
open Go Go.RowKit
theorem Zxc:(((Β 1)++(Β 2)).all λπ=>(Β 3).any λσ=>decide (σ=π))=true:=by decide +kernel
theorem xY{n:Nat}(h:1<=n/\n<=3){π:Fin 8->Int}(a:π∈Β n):π∈Β 3:=by
 have key:∀σ∈Β 1++Β 2,σ∈Β 3:=λσ c=>by obtain⟨τ,d,h2⟩:=Ű.1 (Ć.1 Zxc σ c);rw[<-ĥ h2];exact d
 match n,h with
 |1,_=>exact key _ (List.mem_append_left _ a)
 |2,_=>exact key _ (List.mem_append_right _ a)
 |3,_=>exact a
def jV(o:Ord):Prop:=o∈kO\/∃f∈kO,∃π∈Β 3,o=dN π (eJ f)
theorem RS{o:Ord}(h:sE o=true):mq o=true/\(ô o o.length).length=8:=by unfold sE at h;rw[ĉ]at h;exact⟨h.1,ĵ h.2⟩
theorem jV.b{o:Ord}(h:jV o):mq o=true/\((ô o o.length).length=8\/o.length<=16):=by
 rcases h with h|⟨f,d,π,a,rfl⟩
 .have:=Ć.1 Zz0 o h;rw[ĉ,Ę]at this;exact this
 obtain⟨c,h2⟩:=RS (TU f d π a);exact⟨c,.inl h2⟩
theorem Zvy{σ τ:Fin 8->Int}(a:σ∈Β 3)(c:τ∈Β 3)(o:Ord):dN σ (dN τ o)=dN (gU σ τ) o:=by unfold dN;rw[aab];exact ŭ λm _=>RW ⟨ĳ,ĳ⟩ a c m
theorem jV.full{o:Ord}(h:jV o):eJ (eJ o)=eJ o/\∀π∈Β 3,jV (dN π (eJ o))/\eJ (dN π (eJ o))=dN π (eJ o):=by
 have key:∀f∈kO,∀π∈Β 3,eJ (dN π (eJ f))=dN π (eJ f):=λf d π a=>by obtain⟨l,h2⟩:=RS (TU f d π a);exact ą h2
 have e:(λi:Fin 8=>(i.val:Int))∈Β 3:=by rw[vq];exact aap
 have g:∀o:Ord,dN (λi=>(i.val:Int)) o=o:=λo=>by unfold dN;have:∀m∈o,fx (λi=>(i.val:Int)) m=m:=λm _=>funext λj=>tZ (oe ⟨ĳ,ĳ⟩ e).perm m j j rfl;rw[ŭ this,List.map_id']
 rcases h with h|⟨f,d,τ,c,rfl⟩
 .refine⟨?_,λπ a=>⟨.inr ⟨o,h,π,a,rfl⟩,key o h π a⟩⟩;have:=key o h _ e;rwa [g]at this
 rw[key f d τ c];refine⟨key f d τ c,λπ a=>?_⟩;rw[Zvy a c];have k:=(mQ (n:=3) ⟨ĳ,ĳ⟩ c).1 π a;exact⟨.inr ⟨f,d,_,k,rfl⟩,key f d _ k⟩
structure fa (q:Zc):Prop where
 p:ω q.p
 o:jV q.o
theorem fa.w{q:Zc}(h:fa q):rH q:=⟨h.p,by have:=(kE.of h.o.b.1).len;omega⟩
theorem fa.nil(kind:Int):fa ⟨kind,[],[]⟩:=⟨(ω.of ĳ:ω []),.inl (by unfold kO;simp)⟩
theorem Fo{p:Ù}{n:Nat}:lB n p↔(ï p).toNat<2 ^ n:=by
 rw[<-yD,ů];constructor
 .intro h;rcases eH.1 h with h|h
  .have:=aac n;omega
  exact h
 exact aaJ
def fi(k:Zb)(q:Zc):Bool:=decide (1<=q.kind/\q.kind<=10)&&Ð q.p k.n&&(decide (q.kind=1\/q.kind=7\/q.kind=9) || decide (q.p=[]))&&(decide (q.kind=3) || decide (q.o=[]))
theorem R3(q:Zc):(D3 q).Α (decide (q.kind=1\/q.kind=7\/q.kind=9) || decide (q.p=[])):=by
 have e:decide ((q.p.length:Int)=0)=decide (q.p=[]):=by
  cases q.p with
  |nil=>rfl
  |cons a l=>simp;omega
 by_cases c:q.kind=1
 .exact Cq.wp.yes c (Cq.wp.yes c (by show _=_;rw[ă (Or.inl c)];rfl))
 by_cases h7:q.kind=7
 .exact Cq.wp.no c (Cq.wp.yes h7 (Cq.wp.yes h7 (by show _=_;rw[ă (Or.inr (Or.inl h7))];rfl)))
 by_cases d:q.kind=9
 .exact Cq.wp.no c (Cq.wp.no h7 (Cq.wp.yes d (by show _=_;rw[ă (Or.inr (Or.inr d))];rfl)))
 refine Cq.wp.no c (Cq.wp.no h7 (Cq.wp.no d ?_));show _=_;rw[e,Ċ (p:=q.kind=1\/_) ŉ,Ľ]
theorem ZvF{q:Zc}(h:fa q):(J4 q).Α ((decide (q.kind=1\/q.kind=7\/q.kind=9) || decide (q.p=[]))&&(decide (q.kind=3) || decide (q.o=[]))):=by
 refine⟨true,E5 (kE.of h.o.b.1),?_⟩;cases c:q.o with
 |nil=>
  refine Cq.wp.no ĳ ?_;rw[ă (p:=([]:Ord)=[]) rfl,abC,abo];exact R3 q
 |cons a l=>
  refine Cq.wp.yes (by rw[Ě];omega) ?_;rw[Ċ (p:=a::l=[]) ß,abQ];by_cases h3:q.kind=3
  .refine Cq.wp.no (λe=>e h3) ?_;rw[ă h3,abo];exact R3 q
  refine Cq.wp.yes h3 ?_;show _=_;rw[Ċ h3,abO]
theorem Sh{k:Zb}(v:1<=k.n/\k.n<=4){q:Zc}(h:fa q):(EU k q).Α (fi k q):=by
 unfold fi;by_cases i:q.kind<1
 .refine Cq.wp.yes i ?_;show _=_;rw[Ċ (p:=1<=q.kind/\_) ŉ];rfl
 by_cases c:10<q.kind
 .refine Cq.wp.no i (Cq.wp.yes c ?_);show _=_;rw[Ċ (p:=1<=q.kind/\_) ŉ];rfl
 rw[ă (p:=1<=q.kind/\q.kind<=10) ŉ,Ť];refine Cq.wp.no i (Cq.wp.no c ⟨true,DS h.p,_,yz h.p,?_⟩);obtain⟨n,s⟩:∃n:Nat,k.n=(n:Int):=⟨k.n.toNat,ŉ⟩;rw[s]at v⊢;have nI:1<=n/\n<=4:=ŉ;by_cases m:12<gi q.p
 .refine Cq.wp.yes m ?_;show _=_;have:Ð q.p (n:Int)=false:=by
   cases j:Ð q.p (n:Int)with
   |false=>rfl
   |true=>have:=(Fe j).2;omega
  rw[this];rfl
 refine Cq.wp.no m ⟨_,FA h.p.len,ŉ,?_⟩;have x:=ua q.p;have d:∀t∈q.p,fG t.m<=12:=(tw ĳ).1 ŉ;have a:(Int.fdiv (ï q.p) (2 ^ (min (n:Int).toNat u8.bits))=0)↔(ï q.p).toNat<2 ^ n:=by
  obtain⟨u,l⟩:∃u:Nat,ï q.p=(u:Int):=⟨(ï q.p).toNat,ŉ⟩;have r:Int.fdiv (ï q.p) (2 ^ (min (n:Int).toNat u8.bits))=((u / 2 ^ n:Nat):Int):=by rw[l,Ē,Ž (show n<=u8.bits from Ň nI.2 ĳ),aaf _ (Int.le_of_lt (Int.pow_pos ĳ))];push_cast;rfl
  rw[r,l,Ē];have hp:=aac n;constructor
  .intro g;have g:u / 2 ^ n=0:=ŉ;rcases eH.1 g with h|h
   .omega
   exact h
  intro g;rw[aaJ g];rfl
 by_cases f:(ï q.p).toNat<2 ^ n
 .refine Cq.wp.no (λe=>e (a.2 f)) ?_;rw[(pr ŉ).2 ⟨Fo.2 f,d⟩,Ť];exact ZvF h
 refine Cq.wp.yes (λe=>f (a.1 e)) ?_;show _=_;have:Ð q.p (n:Int)=false:=by
  cases j:Ð q.p (n:Int)with
  |false=>rfl
  |true=>exact absurd (Fo.1 ((pr ŉ).1 j).1) f
 rw[this];rfl
end Go.EL

namespace Go.EL
open Go.IntKind (i8 i16 i32 i64 u8 u16 u32 u64)
open Go Go.RowKit
theorem LB(kind:Int):(Eg kind).Α (decide (kind=1\/kind=7\/kind=9)):=by
 by_cases a:kind=1
 .exact Cq.wp.yes a (by show _=_;rw[ă (Or.inl a)])
 by_cases h7:kind=7
 .exact Cq.wp.no a (Cq.wp.yes h7 (by show _=_;rw[ă (Or.inr (Or.inl h7))]))
 refine Cq.wp.no a (Cq.wp.no h7 ?_);show _=_;by_cases c:kind=9
 .rw[ă c,ă (p:=kind=1\/_) ŉ]
 rw[Ċ c,Ċ (p:=kind=1\/_) ŉ]
theorem Ztp(q:Zc):(JL q).Α ((decide (q.kind=1\/q.kind=7\/q.kind=9) || decide (q.p=[]))&&(decide (q.kind=3) || decide (q.o=[]))):=by
 have key:((if(q.o.length:Int)=0 then Cq.ret true else Cq.ret (decide (q.kind=3))):Cq Bool).Α (decide (q.kind=3) || decide (q.o=[])):=by
  cases c:q.o with
  |nil=>exact Cq.wp.yes rfl (by show _=_;simp)
  |cons a l=>exact Cq.wp.no (by rw[Ě];omega) (by show _=_;simp)
 cases hp:q.p with
 |nil=>
  refine Cq.wp.yes (by rw[hp];rfl) ?_;rw[ă (p:=([]:Ù)=[]) rfl,abC,Ť];exact key
 |cons a l=>
  refine Cq.wp.no (by rw[hp,Ě];omega) ⟨_,LB _,?_⟩;rw[Ċ (p:=a::l=[]) ß,abQ];cases decide (q.kind=1\/q.kind=7\/q.kind=9)with
  |false=>rfl
  |true=>rw[Ť];exact key
theorem Zu4{k:Zb}(m:1<=k.n/\k.n<=4){q:Zc}(h:fa q):(KT k q).Α (fi k q):=by
 unfold fi;by_cases f:q.kind<1
 .refine Cq.wp.yes f ?_;show _=_;rw[Ċ (p:=1<=q.kind/\_) ŉ];rfl
 by_cases a:10<q.kind
 .refine Cq.wp.no f (Cq.wp.yes a ?_);show _=_;rw[Ċ (p:=1<=q.kind/\_) ŉ];rfl
 rw[ă (p:=1<=q.kind/\q.kind<=10) ŉ,Ť];refine Cq.wp.no f (Cq.wp.no a ⟨true,Ah h.p,_,wU h.p,?_⟩);obtain⟨n,l⟩:∃n:Nat,k.n=(n:Int):=⟨k.n.toNat,ŉ⟩;rw[l]at m⊢;have nI:1<=n/\n<=4:=ŉ;by_cases i:12<gi q.p
 .refine Cq.wp.yes i ?_;show _=_;have:Ð q.p (n:Int)=false:=by
   cases g:Ð q.p (n:Int)with
   |false=>rfl
   |true=>have:=(Fe g).2;omega
  rw[this];rfl
 have r:=ua q.p;have c:∀t∈q.p,fG t.m<=12:=(tw ĳ).1 ŉ;have e:u64.wrap (n:Int)=(n:Int):=qA ⟨ŉ,ŉ⟩;have d:i64.wrap (1*2 ^ (min (n:Int).toNat i64.bits))=((2 ^ n:Nat):Int):=by
  match n,nI with
  |1,_=>rfl
  |2,_=>rfl
  |3,_=>rfl
  |4,_=>rfl
 refine Cq.wp.no i ⟨_,Af h.p.len,by rw[e];omega,?_⟩;rw[e,d,wrap64 ŉ];by_cases j:(ï q.p).toNat<2 ^ n
 .refine Cq.wp.no ŉ ⟨true,Ey (kE.of h.o.b.1),Cq.wp.no ĳ ?_⟩;rw[(pr ŉ).2 ⟨Fo.2 j,c⟩,Ť];exact Ztp q
 refine Cq.wp.yes ŉ ?_;show _=_;have:Ð q.p (n:Int)=false:=by
  cases g:Ð q.p (n:Int)with
  |false=>rfl
  |true=>exact absurd (Fo.1 ((pr ŉ).1 g).1) j
 rw[this];rfl
structure eA (k:Zb):Prop where
 ok:ç k
 n3:k.n<=3
theorem eA.nn{k:Zb}(h:eA k):1<=k.n.toNat/\k.n.toNat<=3:=by have:=h.ok.n;have:=h.n3;omega
theorem eA.perm{k:Zb}(h:eA k):(â k).2∈Β k.n.toNat:=by obtain⟨ρ,a,e⟩:=(E7 k).1;rw[e];exact a
theorem eA.mV{k:Zb}(h:eA k):(â k).2∈Β 3:=xY h.nn h.perm
theorem eA.canon{k:Zb}(h:eA k):eA (â k).1:=by refine⟨Zu9 h.ok,?_⟩;obtain⟨ρ,a,e⟩:=(E7 k).1;rw[e];show(ü k ρ).n<=3;rw[yV h.ok a];exact h.n3
theorem eA.Uu{k:Zb}(h:eA k):(â k).1.n=k.n:=by obtain⟨ρ,a,e⟩:=(E7 k).1;rw[e];show(ü k ρ).n=k.n;rw[yV h.ok a]
def eS(q:Zc)(π:Fin 8->Int):Zc:=⟨q.kind,à π q.p,if q.kind=3 then dN π (eJ q.o)else[]⟩
theorem iS{π:Fin 8->Int}(h:π∈Β 3):Ì π:=(oe ⟨ĳ,ĳ⟩ h).perm
theorem Sw{q:Zc}(h:fa q){π:Fin 8->Int}(a:π∈Β 3):fa (eS q π):=by
 refine⟨oB (iS a) h.p,?_⟩;unfold eS;dsimp only;split
 .exact (h.o.full.2 π a).1
 exact(fa.nil 0).o
theorem P4{q:Zc}(h:fa q){π:Fin 8->Int}(a:π∈Β 3):(D7 q π).Α (eS q π,0):=by
 refine⟨_,Qu (iS a) h.p,Cq.wp.no (λe=>e rfl) ?_⟩;unfold eS;by_cases h3:q.kind=3
 .refine Cq.wp.yes h3 ⟨_,(SL (iS a) h.o.b.1 h.o.b.2).1,Cq.wp.no (λe=>e rfl) ?_⟩;show _=_;rw[ą h3]
 refine Cq.wp.no h3 ?_;show _=_;rw[ā h3]
def hM(k:Zb)(q:Zc):ZE:=if fi k q=true then⟨(â k).1,eS q (â k).2,0⟩else⟨iI,⟨0,[],[]⟩,1⟩
theorem Ka{k:Zb}{q:Zc}(c:eA k)(h:fa q):(yL k q).Α (hM k q):=by
 have a:=c.mV;refine⟨true,Kb c.ok,_,Zu4 c.ok.n h,?_⟩;unfold hM;cases hr:fi k q with
 |false=>exact Cq.wp.yes rfl (by show _=_;rw[ā ĳ];rfl)
 |true=>
  rw[ą rfl];refine Cq.wp.no ĳ ⟨_,ZuX c.ok,_,Jj (iS a) h.p,?_⟩;unfold eS;by_cases h3:q.kind=3
  .refine Cq.wp.yes h3 ⟨_,(SL (iS a) h.o.b.1 h.o.b.2).2,Cq.wp.no (λe=>e rfl) ?_⟩;show _=_;rw[ą h3]
  refine Cq.wp.no h3 (Cq.wp.no (λe=>e rfl) ?_);show _=_;rw[ā h3]
structure lz (t:Ze):Prop where
 k:jK t.k
 q:rH t.q
def oq(k:Zb)(q:Zc)(t:Ze):Bool:=decide (þ t.k=þ k)&&decide (hL t.q=hL q)
def Gu(l:Ŀ Ze)(k:Zb)(q:Zc):Int:=match l.findIdx? (oq k q)with
 |some i=>(i:Int)
 |none=>-1
theorem Va{b:Zd}(u:b.t.length<=1000)(h:∀t∈b.t,lz t){k:Zb}{q:Zc}(p:jK k)(r:rH q):(Gk b k q).Α (Gu b.t k q):=by
 have key:∀(m i:Nat),m+i=b.t.length->(Fa b k q (i:Int)).wp λo=>o=(match(b.t.drop i).findIdx? (oq k q)with|some j=>.inl ((i+j:Nat):Int)|none=>.inr ()):=by
  intro m;induction m with
  |zero=>
   intro i hi;refine Cq.Zs (Cq.wp.no ŉ ?_);rw[Ķ ŉ];rfl
  |succ m s=>
   intro i hi;have c:i<b.t.length:=ŉ;have n:=h _ (Ă c);have l:b.t.drop i=b.t[i]::b.t.drop (i+1):=ĭ c;have a:oq k q b.t[i]=false->(Fa b k q ((i+1:Nat):Int)).wp λo=>o=(match(b.t.drop i).findIdx? (oq k q)with|some j=>.inl ((i+j:Nat):Int)|none=>.inr ()):=λe=>by
    refine Cq.mono _ (λo g=>?_) (s (i+1) ŉ);rw[g,l,List.findIdx?_cons,e];cases(b.t.drop (i+1)).findIdx? (oq k q)with
    |none=>rfl
    |some j=>show Sum.inl ((i+1+j:Nat):Int)=Sum.inl ((i+(j+1):Nat):Int);rw[show i+1+j=i+(j+1) by omega]
   refine Cq.Zs (Cq.wp.yes ŉ ⟨_,Μ c,_,KU n.k p,?_⟩);cases f:decide (þ b.t[i].k=þ k)with
   |false=>
    show(Cq.loop _ _).wp _;rw[ψ ŉ];exact a (by unfold oq;rw[f];rfl)
   |true=>
    refine⟨_,Μ c,_,Sl n.q r,?_⟩;cases d:decide (hL b.t[i].q=hL q)with
    |true=>
     refine Cq.wp.yes rfl ?_;show _=_;rw[l,List.findIdx?_cons,show oq k q b.t[i]=true by unfold oq;rw[f,d];rfl];rfl
    |false=>
     refine Cq.wp.no ĳ ?_;show(Cq.loop _ _).wp _;rw[ψ ŉ];exact a (by unfold oq;rw[f,d];rfl)
 show(Cq.next _ _).wp _;refine Cq.mono (Fa b k q 0) (λo g=>?_) (key b.t.length 0 ŉ);rw[g,abc];unfold Gu;cases b.t.findIdx? (oq k q)with
 |none=>rfl
 |some j=>show _=_;rw[ō]
end Go.EL

namespace Go.EL
open Go.IntKind (i8 i16 i32 i64 u8 u16 u32 u64)
open Go Go.RowKit
abbrev qM:Fin 8->Int:=λi=>(i.val:Int)
theorem Ztu{k:Zb}(h:ç k):â (â k).1=((â k).1,qM):=by
 have l:1<=k.n.toNat/\k.n.toNat<=4:=by have:=h.n;omega
 obtain⟨⟨ρ,d,m⟩,n⟩:=E7 k;have f:(â k).1=ü k ρ:=by rw[m]
 have g:(â k).1.n=k.n:=by rw[f,yV h d]
 have i:qM∈Β k.n.toNat:=by rw[vq];exact aap
 have c:ü (â k).1 qM=(â k).1:=by rw[f,RU h i d,id_comp l d]
 have j:∀π∈Β k.n.toNat,¬Op.bytesLess (þ (ü (â k).1 π)).toList (þ (â k).1).toList=true:=λπ a=>by rw[show ü (â k).1 π=ü k (gU π ρ) by rw[f,RU h a d]];exact n _ ((mQ l d).1 π a)
 have e:â (â k).1=fk (â k).1 (Β (â k).1.n.toNat).tail (ü (â k).1 qM,qM):=rfl;rw[e,c,g];exact Su _ _ _ λπ a=>j π (List.mem_of_mem_tail a)
theorem Ns:qM∈Β 3:=by rw[vq];exact aap
theorem Zyo(o:Ord):dN qM o=o:=by unfold dN;have:∀m∈o,fx qM m=m:=λm _=>funext λj=>tZ (iS Ns) m j j rfl;rw[ŭ this,List.map_id']
theorem ZpE{q:Zc}(h:fa q){π:Fin 8->Int}(a:π∈Β 3):eS (eS q π) qM=eS q π:=by
 have hp:=Zyp (n:=3) ⟨ĳ,ĳ⟩ (oB (iS a) h.p);show Zc.mk q.kind (à qM (à π q.p)) (if q.kind=3 then dN qM (eJ (if q.kind=3 then dN π (eJ q.o)else[]))else[])=Zc.mk q.kind (à π q.p) (if q.kind=3 then dN π (eJ q.o)else[]);rw[hp];by_cases h3:q.kind=3
 .rw[ą h3,ą h3,Zyo,(h.o.full.2 π a).2]
 rw[ā h3,ā h3]
theorem Ld{kind:Int}{x:Zc}(h:x∈ò kind):x=⟨x.kind,[],[]⟩/\(x.kind=4\/x.kind=5\/x.kind=6):=by
 unfold ò at h;split at h
 .rw[Ĕ.1 h];exact⟨rfl,ĳ⟩
 split at h
 .rw[Ĕ.1 h];exact⟨rfl,ĳ⟩
 split at h
 .rw[Ĕ.1 h];exact⟨rfl,ĳ⟩
 cases h
theorem EB{kind:Int}{x:Zc}(h:x∈ò kind)(π:Fin 8->Int):eS x π=x:=by obtain⟨e,a⟩:=Ld h;rw[e];show Zc.mk x.kind (à π []) (if x.kind=3 then _ else[])=_;rw[ā ŉ,SM]
theorem EC{kind:Int}{x:Zc}(h:x∈ò kind){k:Zb}(c:ç k):fi k x=true:=by
 obtain⟨e,g⟩:=Ld h;have f:Ð [] k.n=true:=by obtain⟨n,d⟩:∃n:Nat,k.n=(n:Int):=⟨k.n.toNat,by have:=c.n;omega⟩;have:=c.n;rw[d];exact(pr ŉ).2 ⟨λt a=>(nomatch a),λt a=>(nomatch a)⟩
 rw[e];unfold fi;dsimp only;rw[f,ă (p:=1<=x.kind/\x.kind<=10) ŉ];simp
theorem Ba{kind:Int}{x:Zc}(h:x∈ò kind):fa x:=by rw[(Ld h).1];exact fa.nil _
def tN(k:Zb):Prop:=eA k/\â k=(k,qM)
theorem eA.can{k:Zb}(h:eA k):tN (â k).1:=⟨h.canon,Ztu h.ok⟩
structure iz (k:Zb) (q:Zc):Prop where
 ck:tN k
 cq:fa q
 self:eS q qM=q
 right:fi k q=true
theorem ZwI{k:Zb}(h:eA k){p:Ù}(hp:ω p)(c:Ð p k.n=true):Ð (à (â k).2 p) (â k).1.n=true:=by rw[h.Uu];have d:=h.ok.n;obtain⟨n,a⟩:∃n:Nat,k.n=(n:Int):=⟨k.n.toNat,ŉ⟩;rw[a]at c⊢;have:=h.perm;rw[a,Ē]at this;exact SH ŉ (oe ŉ this) hp c
theorem ZtG{k:Zb}(h:eA k){q:Zc}(e:fa q)(hr:fi k q=true):fi (â k).1 (eS q (â k).2)=true:=by
 unfold fi at hr⊢;simp only[ĉ]at hr⊢;obtain⟨⟨⟨c,h2⟩,h3⟩,d⟩:=hr;refine⟨⟨⟨c,ZwI h e.p h2⟩,?_⟩,?_⟩
 .rw[Ĵ]at h3⊢;rcases h3 with h3|h3
  .exact .inl h3
  refine .inr (ă ?_);show à _ q.p=[];rw[ĥ h3,SM]
 rw[Ĵ]at d⊢;by_cases a:q.kind=3
 .exact .inl (ă a)
 refine .inr (ă ?_);show(if q.kind=3 then _ else[])=([]:Ord);rw[ā a]
theorem iz.of{k:Zb}(h:eA k){q:Zc}(a:fa q)(hr:fi k q=true):iz (â k).1 (eS q (â k).2):=
 ⟨h.can,Sw a h.mV,ZpE a h.mV,ZtG h a hr⟩
theorem iz.lk{k:Zb}(h:tN k){kind:Int}{x:Zc}(a:x∈ò kind):iz k x:=⟨h,Ba a,EB a _,EC a h.1.ok⟩
theorem iz.hM{k:Zb}{q:Zc}(h:iz k q):hM k q=⟨k,q,0⟩:=by unfold EL.hM;rw[ą h.right,h.ck.2,h.self]
theorem T5{k m:Zb}{p q:Zc}(a:ç k)(c:ç m):(þ k=þ m/\hL p=hL q)↔gO k p=gO m q:=⟨λh=>by unfold gO;rw[h.1,h.2],λh=>Vn a c h⟩
end Go.EL

namespace Go.EL
open Go.IntKind (i8 i16 i32 i64 u8 u16 u32 u64)
open Go Go.RowKit
abbrev fb(t:Ze):Ĳ:=gO t.k t.q
structure æ (B:Zd):Prop where
 can:∀t∈B.t,iz t.k t.q
 ids:∀i (h:i<B.t.length),B.t[i].id=(i:Int)+1
 next:B.next=(B.t.length:Int)+1
 Ü:B.t.Pairwise λs t=>fb s≠fb t
 lk:∀i (h:i<B.t.length),∀x∈ò B.t[i].q.kind,∃j,∃(h2:j<B.t.length),j<i/\fb B.t[j]=gO B.t[i].k x
 num:∀t∈B.t,(0<=t.υ/\t.υ<=13)/\0<=t.low/\-1<=t.high
def eb(l:Ŀ Ze)(s:Ĳ):ŀ Ze:=l.find? λt=>decide (fb t=s)
theorem KI{l:Ŀ Ze}{s:Ĳ}{t:Ze}(h:eb l s=some t):t∈l/\fb t=s:=⟨ei h,by simpa using aak h⟩
theorem RK{l:Ŀ Ze}{s:Ĳ}(h:eb l s=none):∀t∈l,fb t≠s:=λt a e=>by have:=List.find?_eq_none.1 h t a;exact this (ă e)
theorem Zvg(l:Ŀ Ze)(t:Ze)(s:Ĳ):eb (l++[t]) s=match eb l s with|some u=>some u|none=>if fb t=s then some t else none:=by
 unfold eb;rw[abk];cases l.find? λt=>decide (fb t=s)with
 |some u=>rfl
 |none=>
  simp only[Option.none_or,abF,List.find?_nil];by_cases h:fb t=s
  .rw[ă h,ą h]
  rw[Ċ h,ā h]
def ll(B:Zd)(c:Zb)(q:Zc):Ze:=⟨B.next,c,q,0,0,-1,false⟩
def ie(B:Zd)(c:Zb)(q:Zc):Zd×Int:=match eb B.t (gO c q)with
 |some t=>(B,t.id)
 |none=>(⟨B.t++[ll B c q],B.next+1⟩,B.next)
def ib:Nat->Zd->Zb->Zc->Zd×Int
 |0,B,_,_=>(B,0)
 |n+1,B,c,q=>ie ((ò q.kind).foldl (λb x=>(ib n b c x).1) B) c q
def kp(kind:Int):Nat:=if kind=7 then 4 else if kind=6\/kind=10 then 3 else if kind=5\/kind=8 then 2 else 1
theorem ue(kind:Int):(ò kind=[]/\1<=kp kind)\/∃x,ò kind=[x]/\kp x.kind+1<=kp kind:=by
 unfold ò;split
 .refine .inr ⟨_,rfl,?_⟩;rename_i h;rcases h with rfl|rfl<;>decide
 split
 .refine .inr ⟨_,rfl,?_⟩;rename_i h;rcases h with rfl|rfl<;>decide
 split
 .refine .inr ⟨_,rfl,?_⟩;rename_i h;subst h;decide
 refine .inl ⟨rfl,?_⟩;unfold kp;repeat' split
 all_goals decide
structure Grown (B B':Zd) (m:Nat):Prop where
 ok:æ B'
 pre:B.t <+: B'.t
 len:B'.t.length<=B.t.length+m
theorem TZ{B:Zd}(h:æ B){c:Zb}{q:Zc}(p:iz c q)(u:∀x∈ò q.kind,∃t∈B.t,fb t=gO c x):
  Grown B (ie B c q).1 1/\∃t∈(ie B c q).1.t,fb t=gO c q/\t.id=(ie B c q).2:=by
 unfold ie
 cases k:eb B.t (gO c q)with
 |some t=>
  obtain⟨m,h2⟩:=KI k
  exact⟨⟨h,List.prefix_rfl,Nat.le_succ _⟩,t,m,h2,rfl⟩
 |none=>
  have g:=RK k
  have f:(B.t++[ll B c q]).length=B.t.length+1:=by rw[Ā];rfl
  refine⟨⟨⟨λt a=>?_,λi hi=>?_,?_,?_,λi hi x d=>?_,λt a=>?_⟩,List.prefix_append _ _,by rw[f];exact Ĉ _⟩,ll B c q,ß,rfl,rfl⟩
  .rcases Ĩ.1 a with a|a
   .exact h.can t a
   rw[Ĕ.1 a];exact p
  .have hi:i<(B.t++[ll B c q]).length:=hi
   rw[f]at hi
   show(B.t++[ll B c q])[i].id=_
   by_cases e:i<B.t.length
   .rw[eF e];exact h.ids i e
   have:i=B.t.length:=ŉ
   subst this
   rw[abf (Ĉ _)]
   simp only[aaW,dI]
   exact h.next
  .show B.next+1=((B.t++[ll B c q]).length:Int)+1
   rw[f,h.next];rfl
  .rw[eu]
   refine⟨h.Ü,ū _ _,λs v t a=>?_⟩
   rw[Ĕ.1 a]
   exact g s v
  .have kr:i<(B.t++[ll B c q]).length:=hi
   rw[f]at kr
   have d:x∈ò ((B.t++[ll B c q])[i]).q.kind:=d
   show ∃j,∃(h2:j<(B.t++[ll B c q]).length),j<i/\fb (B.t++[ll B c q])[j]=gO (B.t++[ll B c q])[i].k x
   by_cases e:i<B.t.length
   .rw[eF e]at d⊢
    obtain⟨j,h2,h3,n⟩:=h.lk i e x d
    exact⟨j,ŉ,h3,by rw[eF h2];exact n⟩
   have:i=B.t.length:=ŉ
   subst this
   rw[abf (Ĉ _)]at d⊢
   simp only[aaW,dI]at d⊢
   obtain⟨t,a,r⟩:=u x d
   obtain⟨j,l,e⟩:=ķ.1 a
   exact⟨j,ŉ,l,by rw[eF l,e];exact r⟩
  rcases Ĩ.1 a with a|a
  .exact h.num t a
  rw[Ĕ.1 a];exact⟨⟨by show(0:Int)<=0;omega,by show(0:Int)<=13;omega⟩,by show(0:Int)<=0;omega,by show(-1:Int)<=-1;omega⟩
theorem Grown.trans{A B C:Zd}{m n:Nat}(h:Grown A B m)(k:Grown B C n):Grown A C (m+n):=⟨k.ok,h.pre.trans k.pre,by have:=h.len;have:=k.len;omega⟩
theorem Grown.up{A B:Zd}{m n:Nat}(h:Grown A B m)(k:m<=n):Grown A B n:=⟨h.ok,h.pre,by have:=h.len;omega⟩
theorem FB:∀{n:Nat}{B:Zd}{c:Zb}{q:Zc},kp q.kind<=n->æ B->iz c q->Grown B (ib n B c q).1 (kp q.kind)/\∃t∈(ib n B c q).1.t,fb t=gO c q/\t.id=(ib n B c q).2
 |0,_,_,q,r,_,_=>by
  rcases ue q.kind with ⟨_,h⟩|⟨x,_,h⟩<;>omega
 |n+1,B,c,q,r,k,g=>by
  have e:ib (n+1) B c q=ie ((ò q.kind).foldl (λb x=>(ib n b c x).1) B) c q:=rfl;rw[e];rcases ue q.kind with ⟨a,f⟩|⟨x,a,f⟩
  .rw[a];obtain⟨i,k2⟩:=TZ k g (λx d=>by rw[a]at d;cases d);exact⟨i.up f,k2⟩
  rw[a];have d:x∈ò q.kind:=by rw[a];exact Ĕ.2 rfl
  obtain⟨j,t,m,p,s⟩:=FB (n:=n) (B:=B) (c:=c) (q:=x) ŉ k (iz.lk g.ck d);obtain⟨i,k2⟩:=TZ j.ok g (λy l=>by rw[a,Ĕ]at l;subst l;exact⟨t,m,p⟩);exact⟨(j.trans i).up f,k2⟩
end Go.EL

namespace Go.EL
open Go.IntKind (i8 i16 i32 i64 u8 u16 u32 u64)
open Go Go.RowKit
theorem AY{K V:Type}[DecidableEq K]:∀(D:Ŀ (K×V)) (k:K) (x:V),(eV D k x).length<=D.length+1
 |[],_,_=>Ĉ _
 |p::D,k,x=>by have:=AY D k x;unfold eV;split<;>simp only[Ě]<;>omega
structure km (D:Ŀ (Ĳ×Int)) (l:Ŀ Ze):Prop where
 get:∀s,fg D s=(eb l s).map (·.id)
 len:D.length<=l.length
theorem km.snoc{D:Ŀ (Ĳ×Int)}{l:Ŀ Ze}(h:km D l){t:Ze}(a:eb l (fb t)=none):km (eV D (fb t) t.id) (l++[t]) where
 get s:=by
  rw[yQ,Zvg,h.get];by_cases e:fb t=s
  .subst e;rw[ą rfl,a];simp
  rw[ā e];cases eb l s with
  |none=>simp[e]
  |some u=>rfl
 len:=by have:=AY D (fb t) t.id;have:=h.len;rw[Ā];show _<=l.length+1;omega
theorem æ.pK{B:Zd}(h:æ B){t:Ze}(a:t∈B.t):ç t.k/\rH t.q:=⟨(h.can t a).ck.1.ok,(h.can t a).cq.w⟩
theorem Ua{B:Zd}(h:æ B)(m:B.t.length<=98){D:Ŀ (Ĳ×Int)}(a:km D B.t){c:Zb}{q:Zc}(d:iz c q):
  ∃g,km g (ie B c q).1.t/\(ta c q D B).Α (((ie B c q).2,0),g,(ie B c q).1):=by
 have i:=yZ d.ck.1.ok d.cq.w
 have j:=yU d.ck.1.ok d.cq.w
 have e:=a.get (gO c q)
 unfold ie
 cases f:eb B.t (gO c q)with
 |some t=>
  rw[f]at e
  refine⟨D,a,_,i,j,?_⟩
  rw[show fg D (gO c q)=some t.id from e]
  rfl
 |none=>
  rw[f]at e
  have k:=h.next
  refine⟨eV D (gO c q) B.next,a.snoc (t:=ll B c q) f,_,i,j,?_⟩
  rw[show fg D (gO c q)=none from e]
  have l:=AY D (gO c q) B.next
  have h2:=a.len
  refine⟨⟨⟨ŉ,ŉ⟩,by simp only[small];omega⟩,?_⟩
  show _=_
  rw[wrap64 ŉ]
  rfl
theorem Vq:∀{n:Nat}{B:Zd}{c:Zb}{q:Zc}{D:Ŀ (Ĳ×Int)},kp q.kind<=n->æ B->iz c q->km D B.t->B.t.length+kp q.kind<=99->
  ∃a,km a (ib n B c q).1.t/\(vi n c q D B).Α (((ib n B c q).2,0),a,(ib n B c q).1)
 |0,_,_,q,_,r,_,_,_,_=>by
  rcases ue q.kind with ⟨_,h⟩|⟨x,_,h⟩<;>omega
 |n+1,B,c,q,D,r,i,j,m,A=>by
  have e:ib (n+1) B c q=ie ((ò q.kind).foldl (λb x=>(ib n b c x).1) B) c q:=rfl;have g:=(AK q).1;rw[e];rcases ue q.kind with ⟨f,p⟩|⟨x,f,p⟩
  .rw[f]at g⊢;obtain⟨a,k,k2⟩:=Ua i ŉ m j;exact⟨a,k,_,g,k2⟩
  have s:x∈ò q.kind:=by rw[f];exact Ĕ.2 rfl
  have d:=iz.lk j.ck s;rw[f]at g⊢;obtain⟨v,t,u⟩:=Vq (n:=n) (B:=B) (c:=c) (q:=x) (D:=D) ŉ i d m ŉ;obtain⟨l,_⟩:=FB (n:=n) (B:=B) (c:=c) (q:=x) ŉ i d;have y:=l.len;obtain⟨a,k,k2⟩:=Ua l.ok ŉ t j;exact⟨a,k,_,g,_,u,rfl,k2⟩
theorem ZzU{B:Zd}(h:æ B)(y:B.t.length<=1000):∃D,km D B.t/\(ED B (0,[])).Α D:=by
 have key:∀k,k<=B.t.length->∃D,km D (B.t.take k)/\∀E,(ED B ((k:Int),D)).Α E->(ED B (0,[])).Α E:=by
  intro k;induction k with
  |zero=>intro _;exact⟨[],⟨λs=>rfl,Ĉ _⟩,λE d=>d⟩
  |succ k r=>
   intro x;obtain⟨D,c,h2⟩:=r ŉ;have a:k<B.t.length:=ŉ;have q:=Ă a;obtain⟨l,m⟩:=h.pK q;have f:eb (B.t.take k) (fb B.t[k])=none:=by
    cases n:eb (B.t.take k) (fb B.t[k])with
    |none=>rfl
    |some u=>
     obtain⟨t,v⟩:=KI n;obtain⟨j,p,e⟩:=ķ.1 t;rw[č]at p;rw[aae]at e;exact absurd (by rw[e];exact v) (Ħ.1 h.Ü j k ŉ a ŉ)
   have g:=c.snoc f;rw[<-ċ a]at g;have i:=g.len;rw[č]at i;refine⟨_,g,λE d=>h2 E (Cq.Zs (Cq.wp.yes ŉ ⟨_,Μ a,_,yZ l m,⟨yU l m,by show(eV D (fb B.t[k]) B.t[k].id).length<=small;simp only[small];omega⟩,?_⟩))⟩;show(Cq.loop _ _).wp _;rw[ψ ŉ];exact d
 obtain⟨D,c,h2⟩:=key B.t.length (Ĉ _);rw[Ĥ]at c;exact⟨D,c,h2 D (Cq.Zs (Cq.wp.no ŉ rfl))⟩
theorem Mo(kind:Int):kp kind<=4:=by
 unfold kp;repeat' split
 all_goals decide
def gG(B:Zd)(k:Zb)(q:Zc):Zd×Int×Int:=if fi k q=true then((ib 5 B (â k).1 (eS q (â k).2)).1,(ib 5 B (â k).1 (eS q (â k).2)).2,0)else(⟨[],0⟩,0,1)
theorem A1{B:Zd}(h:æ B)(l:B.t.length<=95){k:Zb}{q:Zc}(a:eA k)(c:fa q):(xx B k q).Α (gG B k q):=by
 refine⟨true,E6 a.ok,_,Sh a.ok.n c,?_⟩;unfold gG;cases hr:fi k q with
 |false=>exact Cq.wp.yes rfl (by show _=_;rw[ā ĳ])
 |true=>
  rw[ą rfl];refine Cq.wp.no ĳ ?_;have f:=iz.of a c hr;have g:kp (eS q (â k).2).kind<=4:=Mo _;obtain⟨D,d,i⟩:=ZzU h ŉ;obtain⟨j,_,h2⟩:=Vq (n:=5) (B:=B) (D:=D) ŉ h f d ŉ;refine⟨_,SO a.ok,_,P4 c a.mV,Cq.wp.no (λe=>e rfl) (Cq.eM i ⟨B.t,⟨λe=>by rw[e];rfl,by rw[ļ];simp only[small];omega,rfl⟩,_,h2,Cq.wp.no (λe=>e rfl) rfl⟩)⟩
theorem ZzL{c:Zb}{q:Zc}(d:ç c){t:Ze}(f:ç t.k):oq c q t=decide (fb t=gO c q):=by
 unfold oq;by_cases e:fb t=gO c q
 .obtain⟨a,h2⟩:=(T5 f d).2 e;rw[ă a,ă h2,ă e];rfl
 rw[Ċ e];by_cases a:þ t.k=þ c
 .rw[ă a,Ċ (λh2=>e ((T5 f d).1 ⟨a,h2⟩))];rfl
 rw[Ċ a];rfl
theorem Mh{c:Zb}{q:Zc}(a:ç c):∀{l:Ŀ Ze},(∀t∈l,ç t.k)->eb l (gO c q)=(l.findIdx? (oq c q)).bind λi=>l[i]?
 |[],_=>rfl
 |t::l,h=>by
  have d:=Mh (q:=q) a (l:=l) λu e=>h u (by simp[e]);rw[List.findIdx?_cons,ZzL a (h t ß)];unfold eb at d⊢;rw[abF];cases decide (fb t=gO c q)with
  |true=>rfl
  |false=>
   rw[d];cases l.findIdx? (oq c q)with
   |none=>rfl
   |some i=>simp
theorem æ.tf{B:Zd}(h:æ B):∀t∈B.t,lz t:=λt a=>⟨(h.can t a).ck.1.ok.qV,(h.can t a).cq.w⟩
theorem Vo{B:Zd}(h:æ B)(k:B.t.length<=98){c:Zb}{q:Zc}(f:iz c q)(e:Int):(Qs ⟨c,q,e⟩ B).Α ⟨(ie B c q).1,(ie B c q).2,0⟩:=by
 refine⟨_,Va ŉ h.tf f.ck.1.ok.qV f.cq.w,?_⟩;have a:=Mh (q:=q) f.ck.1.ok (l:=B.t) λt j=>(h.pK j).1;unfold Gu ie;cases hi:B.t.findIdx? (oq c q)with
 |none=>
  rw[hi]at a;have a:eb B.t (gO c q)=none:=a;rw[a];have g:=h.next;refine Cq.wp.no ĳ (Cq.wp.no ŉ (Cq.wp.no ŉ ⟨by rw[ļ];simp only[small];omega,by simp only[ļ,Ā,Ě,Ļ];simp only[small];omega,?_⟩));show _=_;rw[wrap64 ŉ,ļ];rfl
 |some i=>
  rw[hi]at a;obtain⟨d,_⟩:=aav.1 hi;have a:eb B.t (gO c q)=some B.t[i]:=by rw[a];exact Ą d
  rw[a];exact Cq.wp.yes (show(0:Int)<=(i:Int) by omega) ⟨_,Μ d,rfl⟩
theorem Sn:∀{n:Nat}{B:Zd}{k c:Zb}{p q:Zc},kp q.kind<=n->æ B->iz c q->(yL k p).Α ⟨c,q,0⟩->B.t.length+kp q.kind<=99->
  (AP n B k p).Α ⟨(ib n B c q).1,(ib n B c q).2,0⟩
 |0,_,_,_,_,q,r,_,_,_,_=>by
  rcases ue q.kind with ⟨_,h⟩|⟨x,_,h⟩<;>omega
 |n+1,B,k,c,p,q,r,g,i,hr,v=>by
  have e:ib (n+1) B c q=ie ((ò q.kind).foldl (λb x=>(ib n b c x).1) B) c q:=rfl;have m:=(AK q).2;rw[e];refine⟨_,hr,Cq.wp.no (λe=>e rfl) ⟨_,m,?_⟩⟩;show(Cq.next _ _).wp _;rcases ue q.kind with ⟨f,l⟩|⟨x,f,l⟩
  .rw[f];exact Cq.Zs (Cq.wp.no ĳ (Vo g ŉ i 0))
  have s:x∈ò q.kind:=by rw[f];exact Ĕ.2 rfl
  have a:=iz.lk i.ck s;rw[f];have d:=Ka a.ck.1 a.cq;rw[a.hM]at d;have t:=Sn (n:=n) (B:=B) (k:=c) (c:=c) (p:=x) (q:=x) ŉ g a d ŉ;obtain⟨j,_⟩:=FB (n:=n) (B:=B) (c:=c) (q:=x) ŉ g a;have u:=j.len;exact Cq.Zs (Cq.wp.yes (show(0:Int)<((1:Nat):Int) by decide) ⟨x,⟨ĳ,rfl⟩,_,t,Cq.wp.no (λe=>e rfl) (Cq.Zs (Cq.wp.no (show ¬i64.wrap (0+1)<((1:Nat):Int) by decide) (Vo j.ok ŉ i 0)))⟩)
theorem ZxP{B:Zd}(h:æ B)(i:B.t.length<=95){k:Zb}{q:Zc}(d:eA k)(e:fa q):(AP 5 B k q).Α ⟨(gG B k q).1,(gG B k q).2.1,(gG B k q).2.2⟩:=by
 have a:=Ka d e;unfold gG;cases hr:fi k q with
 |false=>
  have c:hM k q=⟨iI,⟨0,[],[]⟩,1⟩:=by unfold hM;rw[hr];rfl
  rw[c]at a;exact⟨_,a,Cq.wp.yes ĳ rfl⟩
 |true=>
  have c:hM k q=⟨(â k).1,eS q (â k).2,0⟩:=by unfold hM;rw[if_pos hr]
  rw[c]at a;have f:=iz.of d e hr;have g:kp (eS q (â k).2).kind<=4:=Mo _;rw[ą rfl];exact Sn (n:=5) ŉ h f a ŉ
end Go.EL

namespace Go.EL
open Go.IntKind (i8 i16 i32 i64 u8 u16 u32 u64)
open Go Go.RowKit
structure pk (t:Ze):Prop where
 xk:eA t.k\/t.k=iI
 xq:fa t.q
theorem Zy9:¬eA iI:=λh=>absurd h.ok.n.1 ĳ
def ph(t:Ze):Prop:=((0<=t.υ/\t.υ<=13)/\0<=t.low/\-1<=t.high)/\eA t.k/\fi t.k t.q=true/\þ (â t.k).1=þ t.k/\hL (eS t.q (â t.k).2)=hL t.q
theorem ZsF:(vh iI).Α false:=⟨false,Cq.wp.no ĳ rfl,rfl⟩
theorem Zxg{t:Ze}(h:pk t):(Kz t).wp λb=>(b=true↔ph t):=by
 by_cases c:t.υ<0
 .refine Cq.wp.yes c ⟨λe=>(nomatch e),λp=>?_⟩;have:=p.1.1.1;omega
 by_cases d:13<t.υ
 .refine Cq.wp.no c (Cq.wp.yes d ⟨λe=>(nomatch e),λp=>?_⟩);have:=p.1.1.2;omega
 by_cases g:t.low<0
 .refine Cq.wp.no c (Cq.wp.no d (Cq.wp.yes g ⟨λe=>(nomatch e),λp=>?_⟩));have:=p.1.2.1;omega
 by_cases i:t.high < -1
 .refine Cq.wp.no c (Cq.wp.no d (Cq.wp.no g (Cq.wp.yes i ⟨λe=>(nomatch e),λp=>?_⟩)));have:=p.1.2.2;omega
 refine Cq.wp.no c (Cq.wp.no d (Cq.wp.no g (Cq.wp.no i ?_)));have j:(0<=t.υ/\t.υ<=13)/\0<=t.low/\-1<=t.high:=ŉ;rcases h.xk with a|a
 .refine⟨true,E6 a.ok,_,Sh a.ok.n h.xq,?_⟩;cases hr:fi t.k t.q with
  |false=>exact Cq.wp.yes rfl ⟨λe=>(nomatch e),λp=>by have:=p.2.2.1;rw[hr]at this;cases this⟩
  |true=>
   refine Cq.wp.no ĳ ⟨_,SO a.ok,_,y4 a.canon.ok,_,y4 a.ok,?_⟩;by_cases f:þ (â t.k).1=þ t.k
   .refine Cq.wp.no (λe=>e f) ⟨_,P4 h.xq a.mV,Cq.wp.yes rfl ⟨_,Ma (Sw h.xq a.mV).w,_,Ma h.xq.w,?_⟩⟩;exact⟨λe=>⟨j,a,hr,f,ĥ e⟩,λp=>ă p.2.2.2.2⟩
   exact Cq.wp.yes f ⟨λe=>(nomatch e),λp=>absurd p.2.2.2.1 f⟩
 rw[show JJ t=Cq.bind (vh t.k) _ from rfl,a];exact⟨false,ZsF,⟨λe=>(nomatch e),λp=>absurd (a ▸ p.2.1) Zy9⟩⟩
structure z8 (B:Zd) (i:Nat) (t:Ze):Prop where
 Wv:1<=t.id
 idn:t.id<B.next
 inc:∀j (h:j<B.t.length),j+1=i->B.t[j].id<t.id
 prop:ph t
 Ü:∀j (h:j<B.t.length),j<i->fb B.t[j]≠fb t
 lk:∀x∈ò t.q.kind,∃j,∃(h:j<B.t.length),j<i/\fb B.t[j]=gO t.k x
def u9(B:Zd):Prop:=∀i (h:i<B.t.length),z8 B i B.t[i]
def rL(B:Zd):Prop:=(B.t.length<=100/\1<=B.next/\B.next<=1000000)/\u9 B
def Ab(A:Prop):Bool⊕Unit->Prop
 |.inl b=>b=false/\¬A
 |.inr ()=>A
structure nP (D:Ŀ (Ĳ×Bool)) (B:Zd) (i:Nat):Prop where
 get:∀s,(fg D s).getD false=true↔∃j,∃(h:j<B.t.length),j<i/\fb B.t[j]=s
 len:D.length<=i
theorem nP.step{D:Ŀ (Ĳ×Bool)}{B:Zd}{i:Nat}(h:nP D B i)(hi:i<B.t.length):nP (eV D (fb B.t[i]) true) B (i+1) where
 get s:=by
  rw[yQ];by_cases e:fb B.t[i]=s
  .rw[ą e];exact⟨λ_=>⟨i,hi,Ũ _,e⟩,λ_=>rfl⟩
  rw[ā e,h.get];constructor
  .rintro⟨j,a,h2,h3⟩;exact⟨j,a,ŉ,h3⟩
  rintro⟨j,a,h2,h3⟩;by_cases c:j=i
  .subst c;exact absurd h3 e
  exact⟨j,a,ŉ,h3⟩
 len:=by have:=AY D (fb B.t[i]) true;have:=h.len;omega
theorem ZzX{B:Zd}{i:Nat}{D:Ŀ (Ĳ×Bool)}(e:nP D B i){t:Ze}(f:eA t.k):
  (J3 D t (ò t.q.kind) 0).wp (Ab (∀x∈ò t.q.kind,∃j,∃(h:j<B.t.length),j<i/\fb B.t[j]=gO t.k x)):=by
 rcases ue t.q.kind with ⟨a,_⟩|⟨x,a,_⟩
 .rw[a]
  exact Cq.Zs (Cq.wp.no ĳ (λx d=>(nomatch d)))
 have d:x∈ò t.q.kind:=by rw[a];exact Ĕ.2 rfl
 have g:=(Ba d).w
 rw[a]
 refine Cq.Zs (Cq.wp.yes (show(0:Int)<((1:Nat):Int) by decide) ⟨x,⟨ĳ,rfl⟩,_,yZ f.ok g,yU f.ok g,?_⟩)
 by_cases c:(fg D (gO t.k x)).getD false=true
 .refine Cq.wp.no (by rw[c];decide) (Cq.Zs (Cq.wp.no (show ¬i64.wrap (0+1)<((1:Nat):Int) by decide) (λy l=>?_)))
  rw[Ĕ.1 l]
  exact(e.get _).1 c
 refine Cq.wp.yes (by rw[ź.2 c];rfl) ⟨rfl,λk=>c ((e.get _).2 (k x (Ĕ.2 rfl)))⟩
theorem Q3{B:Zd}(J:∀t∈B.t,pk t)(O:B.t.length<=100):∀(m i:Nat),m+i=B.t.length->∀(last:Int) (D:Ŀ (Ĳ×Bool)),nP D B i->(i=0->last=0)->(∀j (h:j<B.t.length),j+1=i->B.t[j].id=last)->(∀j (h:j<B.t.length),j<i->z8 B j B.t[j])->
  (J2 B (last,(i:Int),D)).wp (Ab (u9 B))
 |0,i,P,last,D,p,v,hp,d=>Cq.Zs (Cq.wp.no ŉ (λj n=>d j n ŉ))
 |m+1,i,P,last,D,p,v,hp,d=>by
  have hi:i<B.t.length:=ŉ;have F:=J _ (Ă hi);have C:0<=last:=by
   by_cases e:i=0
   .rw[v e];exact Ŝ _
   have:=(d (i-1) ŉ ŉ).Wv;rw[hp (i-1) ŉ ŉ]at this;omega
  have g:(∀j (h:j<B.t.length),j+1=i->B.t[j].id<B.t[i].id)↔i=0\/last<B.t[i].id:=by
   constructor
   .intro h;by_cases e:i=0
    .exact .inl e
    refine .inr ?_;have:=h (i-1) ŉ ŉ;rwa [hp (i-1) ŉ ŉ]at this
   intro h j n e;rw[hp j n e];rcases h with h|h
   .omega
   exact h
  refine Cq.Zs (Cq.wp.yes ŉ ⟨_,Μ hi,?_⟩);by_cases s:B.t[i].id<=last
  .refine Cq.wp.yes s ⟨rfl,λc=>?_⟩;have:=(c i hi).Wv;rcases g.1 (c i hi).inc with e|e
   .rw[v e]at s;omega
   omega
  refine Cq.wp.no s ?_;by_cases G:B.next<=B.t[i].id
  .refine Cq.wp.yes G ⟨rfl,λc=>?_⟩;have:=(c i hi).idn;omega
  refine Cq.wp.no G ?_;rcases U8 (Zxg F)with ⟨f,l⟩|⟨f,l⟩
  .refine⟨_,l,?_⟩;have A:=f.2.1;have k:=yZ A.ok F.xq.w;have q:=yU A.ok F.xq.w;refine⟨_,k,q,?_⟩;by_cases r:(fg D (fb B.t[i])).getD false=true
   .refine Cq.wp.yes r ⟨rfl,λc=>?_⟩;obtain⟨j,L,h2,h3⟩:=(p.get _).1 r;exact(c i hi).Ü j L h2 h3
   refine Cq.wp.no r ⟨_,(AK _).1,?_⟩;refine Cq.mono (J3 D B.t[i] (ò B.t[i].q.kind) 0) (λo H=>?_) (ZzX p A);cases o with
   |inl b=>
    obtain⟨rfl,E⟩:=H;exact⟨rfl,λc=>E (c i hi).lk⟩
   |inr u=>
    cases u;have E:∀x∈ò B.t[i].q.kind,∃j,∃(h:j<B.t.length),j<i/\fb B.t[j]=gO B.t[i].k x:=H;have I:=p.step hi;have Q:=I.len;refine⟨_,k,⟨q,by show(eV D (fb B.t[i]) true).length<=small;simp only[small];omega⟩,?_⟩;show(Cq.loop _ _).wp _;rw[ψ ŉ];refine Q3 J O m (i+1) ŉ _ _ I (λe=>ŉ) (λj n e=>by obtain rfl:j=i:=ŉ;rfl) (λj n e=>?_);by_cases K:j=i
    .subst K;exact⟨ŉ,ŉ,g.2 (.inr ŉ),f,λa N y e=>r ((p.get _).2 ⟨a,N,y,e⟩),E⟩
    exact d j n ŉ
  exact⟨_,l,rfl,λc=>f (c i hi).prop⟩
theorem Zv8{B:Zd}(i:∀t∈B.t,pk t):(ET B).wp λb=>(b=true↔rL B):=by
 by_cases a:B.next<1
 .refine Cq.wp.yes a ⟨λe=>(nomatch e),λp=>?_⟩;have:=p.1.2.1;omega
 by_cases c:1000000<B.next
 .refine Cq.wp.no a (Cq.wp.yes c ⟨λe=>(nomatch e),λp=>?_⟩);have:=p.1.2.2;omega
 by_cases d:100<(B.t.length:Int)
 .refine Cq.wp.no a (Cq.wp.no c (Cq.wp.yes d ⟨λe=>(nomatch e),λp=>?_⟩));have:=p.1.1;omega
 refine Cq.wp.no a (Cq.wp.no c (Cq.wp.no d ?_));show(Cq.next _ _).wp _;refine Cq.mono (J2 B (0,0,[])) (λo f=>?_) (Q3 i ŉ B.t.length 0 rfl 0 [] ⟨λs=>⟨λe=>(nomatch e),λ⟨j,_,h,_⟩=>absurd h (ı _)⟩,Ĉ _⟩ (λ_=>rfl) (λj _ e=>ŉ) (λj _ e=>ŉ));cases o with
 |inl b=>
  obtain⟨rfl,g⟩:=f;exact⟨λe=>(nomatch e),λp=>absurd p.2 g⟩
 |inr u=>
  cases u;exact⟨λ_=>⟨ŉ,f⟩,λ_=>rfl⟩
theorem æ.Dy{B:Zd}(h:æ B):∀t∈B.t,pk t:=λt a=>⟨.inl (h.can t a).ck.1,(h.can t a).cq⟩
theorem æ.valid{B:Zd}(h:æ B)(l:B.t.length<=100):rL B:=by have m:=h.next;refine⟨ŉ,λi hi=>?_⟩;have f:=Ă hi;have a:=h.can _ f;have g:=h.ids i hi;refine⟨ŉ,ŉ,λj c e=>by have:=h.ids j c;omega,⟨h.num _ f,a.ck.1,a.right,by rw[a.ck.2],by rw[a.ck.2,a.self]⟩,λj c d=>Ħ.1 h.Ü j i c hi d,λx k=>h.lk i hi x k⟩
end Go.EL

namespace Go.EL
open Go.IntKind (i8 i16 i32 i64 u8 u16 u32 u64)
open Go Go.RowKit
def qu:Ze:=⟨0,⟨0,[],[]⟩,⟨0,[],[]⟩,0,0,0,false⟩
def fv(l:Ŀ Ze)(id:Int):Ze×Bool:=match l.find? λt=>decide (t.id=id)with
 |some t=>(t,true)
 |none=>(qu,false)
theorem yO{B:Zd}(j:B.t.length<=1000)(id:Int):(xt B id).Α (fv B.t id)/\(Lz B id).Α (fv B.t id):=by
 have key:∀(m i:Nat),m+i=B.t.length->∀z,((Ki B id ((i:Int),z)).wp λo=>o=(match(B.t.drop i).find? (λt=>decide (t.id=id))with|some t=>.inl (t,true)|none=>.inr z))/\((J8 B id ((i:Int),z)).wp λo=>o=(match(B.t.drop i).find? (λt=>decide (t.id=id))with|some t=>.inl (t,true)|none=>.inr z)):=by
  intro m;induction m with
  |zero=>
   intro i hi z;rw[Ķ ŉ];exact⟨Cq.Zs (Cq.wp.no ŉ rfl),Cq.Zs (Cq.wp.no ŉ rfl)⟩
  |succ m h=>
   intro i hi z;have a:i<B.t.length:=ŉ;obtain⟨d,f⟩:=h (i+1) ŉ z;rw[ĭ a,abF];by_cases e:B.t[i].id=id
   .rw[ă e];exact⟨Cq.Zs (Cq.wp.yes ŉ ⟨_,Μ a,Cq.wp.yes e rfl⟩),Cq.Zs (Cq.wp.yes ŉ ⟨_,Μ a,Cq.wp.yes e ⟨_,Μ a,rfl⟩⟩)⟩
   rw[Ċ e];refine⟨Cq.Zs (Cq.wp.yes ŉ ⟨_,Μ a,Cq.wp.no e ?_⟩),Cq.Zs (Cq.wp.yes ŉ ⟨_,Μ a,Cq.wp.no e ?_⟩)⟩
   .show (Cq.loop _ _).wp _;rw[ψ ŉ];exact d
   show(Cq.loop _ _).wp _;rw[ψ ŉ];exact f
 obtain⟨g,k2⟩:=key B.t.length 0 ŉ qu;rw[abc]at g k2;unfold fv;constructor
 .show (Cq.next _ _).wp _;refine Cq.mono (Ki B id (0,qu)) (λo c=>?_) g;rw[c];cases B.t.find? λt=>decide (t.id=id)<;>rfl
 show(Cq.next _ _).wp _;refine Cq.mono (J8 B id (0,qu)) (λo c=>?_) k2;rw[c];cases B.t.find? λt=>decide (t.id=id)<;>rfl
structure nO (s t:Ze):Prop where
 id:s.id=t.id
 υ:s.υ=t.υ
 low:s.low=t.low
 high:s.high=t.high
 done:s.done=t.done
 k:þ s.k=þ t.k
 q:hL s.q=hL t.q
theorem nO.refl(t:Ze):nO t t:=⟨rfl,rfl,rfl,rfl,rfl,rfl,rfl⟩
theorem Zv6{s t:Ze}(a:lz s)(c:lz t)(h:nO s t):(JM s t).Α true:=by refine Cq.wp.yes h.id (Cq.wp.yes h.υ (Cq.wp.yes h.low (Cq.wp.yes h.high (Cq.wp.yes h.done ⟨_,KU a.k c.k,?_⟩))));rw[ă h.k];exact⟨_,Sl a.q c.q,ă h.q⟩
theorem ZpB{B C:Zd}(f:∀t∈B.t,lz t)(g:∀t∈C.t,lz t)(l:B.next=C.next)(n:B.t.length=C.t.length)(j:B.t.length<=1000)(h:∀i (m:i<B.t.length) (h2:i<C.t.length),nO B.t[i] C.t[i]):(FN B C).Α true:=by
 refine Cq.wp.no (λe=>e l) (Cq.wp.no (λe=>e ŉ) ?_);show(Cq.next _ _).wp _;refine Cq.Zn B.t.length (λk s=>s=(k:Int)) (λk s d c=>?_) (λs c=>?_) rfl
 .subst c;have a:k<C.t.length:=ŉ;refine Cq.wp.yes ŉ ⟨_,Μ d,_,Μ a,_,Zv6 (f _ (Ă _)) (g _ (Ă _)) (h k d a),Cq.wp.no ĳ ?_⟩;show _=_;rw[ψ ŉ]
 subst c;exact Cq.wp.no ŉ rfl
theorem Zrh{B:Zd}(c:∀t∈B.t,lz t)(a:B.t.length<=1000):(FN B B).Α true:=ZpB c c rfl rfl a λi _ _=>nO.refl _
def hU(B:Zd)(t:Ze):Bool:=!t.done&&decide (t.υ<=12)&&(ò t.q.kind).all λx=>match eb B.t (gO t.k x)with
 |some u=>u.done
 |none=>false
def iW(B:Zd)(n:Nat):Ŀ Ze:=B.t.filter λt=>decide (t.υ=(n:Int))&&hU B t
def Ê(B:Zd):Ŀ Ze:=(List.range 13).flatMap (iW B)
def fR(B:Zd):Ŀ Int:=(Ê B).map (·.id)
theorem Ztx{α:Type}(p:α->Bool){l:Ŀ α}{i:Nat}(hi:i<l.length):(l.take (i+1)).filter p=(l.take i).filter p++if p l[i]=true then[l[i]]else[]:=by rw[ċ hi,aba];congr 1;rw[Ŏ];split<;>rfl
theorem ZvC(B:Zd)(n:Nat):(iW B n).length<=B.t.length:=dV _ _
theorem JC(B:Zd):∀n:Nat,((List.range n).flatMap (iW B)).length<=n*B.t.length
 |0=>Ĝ _
 |n+1=>by rw[aal,dw,Ā,List.flatMap_singleton,Ŋ];have:=JC B n;have:=ZvC B n;omega
def xU(s t:Ze):Prop:=s.υ<t.υ\/(s.υ=t.υ/\s.id<t.id)
theorem Uv{s t:Ze}:lf s t<0↔xU s t:=by
 unfold lf xU;by_cases a:s.υ<t.υ
 .rw[ą a];omega
 rw[ā a];by_cases b:t.υ<s.υ
 .rw[ą b];omega
 rw[ā b];by_cases c:s.id<t.id
 .rw[ą c];omega
 rw[ā c];split<;>omega
theorem æ.inc{B:Zd}(h:æ B):B.t.Pairwise λs t=>s.id<t.id:=by rw[Ħ];intro i j hi c a;have:=h.ids i hi;have:=h.ids j c;omega
theorem LW{B:Zd}(h:æ B):∀n:Nat,((List.range n).flatMap (iW B)).Pairwise xU/\∀t∈(List.range n).flatMap (iW B),t.υ<(n:Int)
 |0=>⟨List.Pairwise.nil,λt a=>by cases a⟩
 |n+1=>by
  obtain⟨f,h2⟩:=LW h n;have c:∀t∈iW B n,t.υ=(n:Int):=λt a=>by have:=(ŋ.1 a).2;rw[ĉ]at this;exact ĥ this.1
  rw[aal,dw,List.flatMap_singleton,eu];refine⟨⟨f,?_,λs d t a=>.inl (by have:=h2 s d;have:=c t a;omega)⟩,λt a=>?_⟩
  .have hp:(iW B n).Pairwise λs t=>s.id<t.id:=h.inc.sublist List.filter_sublist;refine hp.imp_of_mem λ{s t} d a e=>.inr ⟨by have:=c s d;have:=c t a;omega,e⟩
  rcases Ĩ.1 a with a|a
  .have:=h2 t a;omega
  have:=c t a;omega
theorem Zvo{t:Ze}(h:xU t t):False:=by unfold xU at h;omega
theorem ZtE{B:Zd}{t:Ze}(h:hU B t=true):t.done=false/\t.υ<=12:=by unfold hU at h;rw[ĉ,ĉ]at h;exact⟨by simpa using h.1.1,ĥ h.1.2⟩
theorem yR{B:Zd}(h:æ B){t:Ze}:t∈Ê B↔t∈B.t/\hU B t=true:=by
 unfold Ê iW;simp only[List.mem_flatMap,ĺ,ŋ,ĉ,Ę];constructor
 .rintro⟨n,_,a,_,h2⟩;exact⟨a,h2⟩
 rintro⟨a,h2⟩;have c:=(h.num t a).1;have:=(ZtE h2).2;exact⟨t.υ.toNat,ŉ,a,ŉ,h2⟩
theorem ZvD{B:Zd}(h:æ B){ys:Ŀ Ze}(hp:ys.Perm (B.t.filter (hU B)))(u:ys.Pairwise λx y=>¬lf y x<0):ys=Ê B:=by
 have hr:=(LW h 13).1;have f:(Ê B).Nodup:=hr.imp λ{s t} e c=>by subst c;exact Zvo e
 have d:(B.t.filter (hU B)).Nodup:=(h.inc.sublist List.filter_sublist).imp λ{s t} e c=>by subst c;exact Int.lt_irrefl _ e
 refine abn (le:=λx y=>¬lf y x<0) (λa b n p l h2=>?_) u (hr.imp λ{s t} e c=>?_) (hp.trans ((aa8 d f).2 λt=>?_))
 .rw[Uv]at l h2;have v:=(ŋ.1 (hp.mem_iff.1 n)).1;have mb:=((yR h).1 p).1;obtain⟨i,hi,g⟩:=ķ.1 v;obtain⟨j,r,k⟩:=ķ.1 mb;have h3:=h.ids i hi;have m:=h.ids j r;have q:a.id=b.id:=by unfold xU at l h2;omega
  rw[g]at h3;rw[k]at m;have:i=j:=ŉ;subst this;rw[<-g,<-k]
 .rw[Uv]at c;unfold xU at e c;omega
 rw[yR h,ŋ]
end Go.EL

namespace Go.EL
open Go.IntKind (i8 i16 i32 i64 u8 u16 u32 u64)
open Go Go.RowKit
structure pf (D:Ŀ (Ĳ×Bool)) (B:Zd) (i:Nat):Prop where
 get:∀s,(fg D s).getD false=true↔∃j,∃(h:j<B.t.length),j<i/\fb B.t[j]=s/\B.t[j].done=true
 len:D.length<=i
theorem Zx2{B:Zd}(h:æ B)(u:B.t.length<=1000):∃D,pf D B B.t.length/\(Ee B (0,[])).Α D:=by
 have key:∀k,k<=B.t.length->∃D,pf D B k/\∀E,(Ee B ((k:Int),D)).Α E->(Ee B (0,[])).Α E:=by
  intro k;induction k with
  |zero=>intro _;exact⟨[],⟨λs=>⟨λe=>(nomatch e),λ⟨j,_,h,_⟩=>absurd h (ı _)⟩,Ĉ _⟩,λE i=>i⟩
  |succ k r=>
   intro t;obtain⟨D,g,h2⟩:=r ŉ;have f:k<B.t.length:=ŉ;obtain⟨n,p⟩:=h.pK (Ă f);have q:=g.len;cases l:B.t[k].done with
   |true=>
    have v:=AY D (fb B.t[k]) true;refine⟨eV D (fb B.t[k]) true,⟨λs=>?_,ŉ⟩,λE i=>h2 E (Cq.Zs (Cq.wp.yes ŉ ⟨_,Μ f,Cq.wp.yes l ⟨_,yZ n p,⟨yU n p,by show(eV D (fb B.t[k]) true).length<=small;simp only[small];omega⟩,?_⟩⟩))⟩
    .rw[yQ];by_cases e:fb B.t[k]=s
     .rw[ą e];exact⟨λ_=>⟨k,f,Ũ _,e,l⟩,λ_=>rfl⟩
     rw[ā e,g.get];constructor
     .rintro⟨j,a,b,c⟩;exact⟨j,a,ŉ,c⟩
     rintro⟨j,a,b,c,d⟩;by_cases m:j=k
     .subst m;exact absurd c e
     exact⟨j,a,ŉ,c,d⟩
    show(Cq.loop _ _).wp _;rw[ψ ŉ];exact i
   |false=>
    refine⟨D,⟨λs=>?_,ŉ⟩,λE i=>h2 E (Cq.Zs (Cq.wp.yes ŉ ⟨_,Μ f,Cq.wp.no (by rw[l];decide) ?_⟩))⟩
    .rw[g.get];constructor
     .rintro⟨j,a,b,c⟩;exact⟨j,a,ŉ,c⟩
     rintro⟨j,a,b,c,d⟩;by_cases m:j=k
     .subst m;rw[l]at d;cases d
     exact⟨j,a,ŉ,c,d⟩
    show(Cq.loop _ _).wp _;rw[ψ ŉ];exact i
 obtain⟨D,g,h2⟩:=key B.t.length (Ĉ _);exact⟨D,g,h2 D (Cq.Zs (Cq.wp.no ŉ rfl))⟩
theorem Zwi{B:Zd}(h:æ B){D:Ŀ (Ĳ×Bool)}(l:pf D B B.t.length)(s:Ĳ):(fg D s).getD false=(match eb B.t s with|some u=>u.done|none=>false):=by
 rw[aaR,l.get];cases g:eb B.t s with
 |none=>
  constructor
  .rintro⟨j,a,_,c,_⟩;exact absurd c (RK g _ (Ă a))
  intro e;cases e
 |some u=>
  obtain⟨n,f⟩:=KI g;obtain⟨i,hi,e⟩:=ķ.1 n;dsimp only;constructor
  .rintro⟨j,a,_,c,d⟩;have:i=j:=by
    by_cases k:i<j
    .exact absurd (by rw[e,f,c]) (Ħ.1 h.Ü i j hi a k)
    by_cases h2:j<i
    .exact absurd (by rw[e,f,c]) (Ħ.1 h.Ü j i a hi h2)
    omega
   subst this;rw[<-e];exact d
  intro m;exact⟨i,hi,hi,by rw[e];exact f,by rw[e];exact m⟩
theorem Zrr{B:Zd}(h:æ B){D:Ŀ (Ĳ×Bool)}(f:pf D B B.t.length){t:Ze}(d:eA t.k):
  (ZG (ò t.q.kind) D t).Α (!(ò t.q.kind).all λx=>match eb B.t (gO t.k x)with|some u=>u.done|none=>false):=by
 rcases ue t.q.kind with ⟨a,_⟩|⟨x,a,_⟩
 .rw[a]
  exact⟨-1,Cq.Zs (Cq.wp.no ĳ rfl),rfl⟩
 have i:x∈ò t.q.kind:=by rw[a];exact Ĕ.2 rfl
 have e:=(Ba i).w
 have g:=Zwi h f (gO t.k x)
 have c:(J0 x D t).Α (!((fg D (gO t.k x)).getD false)):=⟨_,yZ d.ok e,yU d.ok e,rfl⟩
 rw[g]at c
 rw[a]
 simp only[aaK,List.all_nil,abo]
 generalize (match eb B.t (gO t.k x)with|some u=>u.done|none=>false:Bool)=b at c
 cases b with
 |true=>exact⟨-1,Cq.Zs (Cq.wp.yes (show(0:Int)<((1:Nat):Int) by decide) ⟨x,⟨ĳ,rfl⟩,_,c,Cq.wp.no ĳ (Cq.Zs (Cq.wp.no (show ¬i64.wrap (0+1)<((1:Nat):Int) by decide) rfl))⟩),rfl⟩
 |false=>exact⟨0,Cq.Zs (Cq.wp.yes (show(0:Int)<((1:Nat):Int) by decide) ⟨x,⟨ĳ,rfl⟩,_,c,Cq.wp.yes rfl rfl⟩),rfl⟩
theorem RF{B:Zd}(h:æ B)(q:B.t.length<=100):(ES B).Α (fR B):=by
 obtain⟨D,p,r⟩:=Zx2 h ŉ;refine Cq.eM r ?_;show(Cq.next _ _).wp _;refine Cq.Zn B.t.length (λi s=>s=((B.t.take i).filter (hU B),(i:Int))) (λi s hi d=>?_) (λs d=>?_) rfl
 .subst d;have a:=Ztx (hU B) hi;have f:((B.t.take i).filter (hU B)).length<=100:=Ň (dV _ _) (by rw[č];omega);have l:=(h.can _ (Ă hi)).ck.1;have c:hU B B.t[i]=(!B.t[i].done&&decide (B.t[i].υ<=12)&&(ò B.t[i].q.kind).all λx=>match eb B.t (gO B.t[i].k x)with|some u=>u.done|none=>false):=rfl;refine Cq.wp.yes ŉ ⟨_,Μ hi,?_⟩;cases j:B.t[i].done with
  |true=>
   have A:hU B B.t[i]=false:=by rw[c,j];rfl
   rw[A,ā ĳ,ę]at a;refine Cq.wp.yes j ?_;show _=_;rw[ψ ŉ,a]
  |false=>
   refine Cq.wp.no (by rw[j];decide) ?_;by_cases g:B.t[i].υ<=12
   .rw[c,j,ă g]at a;refine Cq.wp.yes g ⟨_,(AK _).1,_,Zrr h p l,?_⟩;generalize ((ò B.t[i].q.kind).all λx=>match eb B.t (gO B.t[i].k x)with|some u=>u.done|none=>false)=b at a;cases b with
    |true=>
     rw[ą ĳ]at a;refine Cq.wp.yes rfl ⟨by simp only[Ā,Ě,Ļ];simp only[small];omega,?_⟩;show _=_;rw[ψ ŉ,a]
    |false=>
     rw[ā ĳ,ę]at a;refine Cq.wp.no ĳ ?_;show _=_;rw[ψ ŉ,a]
   rw[c,Ċ g,abO,Ŷ,ā ĳ,ę]at a;refine Cq.wp.no g ?_;show _=_;rw[ψ ŉ,a]
 subst d;refine Cq.wp.no ŉ ?_;rw[Ĥ];have f:(B.t.filter (hU B)).length<=100:=Ň (dV _ _) q;obtain⟨v,y,C,E⟩:=TF f;have e:(ZR (B.t.filter (hU B))).Α (Ê B):=⟨_,y,Ê B,⟨⟨rfl,rfl,⟨C,E⟩,ŉ⟩,λys n=>ZvD h n.1 n.2⟩,rfl⟩;refine⟨_,e,?_⟩;have t:=JC B 13;show(Cq.next _ _).wp _;refine Cq.Zn (Ê B).length (λk s=>s=(((Ê B).take k).map (·.id),(k:Int))) (λk s l d=>?_) (λs d=>?_) rfl
 .subst d;have m:(Ê B).length<=1300:=by
   show((List.range 13).flatMap (iW B)).length<=1300;omega
  refine Cq.wp.yes ŉ ⟨_,Μ l,by simp only[Ā,ć,č,Ě,Ļ];simp only[small];omega,?_⟩;show _=_;rw[ψ ŉ,ċ l,Ī];rfl
 subst d;refine Cq.wp.no ŉ ?_;rw[Ĥ];rfl
end Go.EL

namespace Go.EL
open Go.IntKind (i8 i16 i32 i64 u8 u16 u32 u64)
open Go Go.RowKit
theorem y5(N:Nat)(p:N<=1000)(f:Nat->Bool){step:Int->Cq (Int⊕(Bool⊕Unit))}(h:∀k,k<N->(step (k:Int)).wp λo=>o=if f k=true then .inl (i64.wrap ((k:Int)+1))else .inr (.inl false))
  (a:(step (N:Int)).wp λo=>o=.inr (.inr ())):(Cq.loop step 0).wp λo=>o=if(List.range N).all f=true then .inr ()else .inl false:=by
 refine Cq.Zn N (λk s=>s=(k:Int)/\∀i,i<k->f i=true) (λk s l j=>?_) (λs j=>?_) ⟨rfl,λi hi=>absurd hi (ı _)⟩
 .obtain⟨rfl,d⟩:=j
  refine(step _).mono (λo g=>?_) (h k l)
  subst g
  by_cases c:f k=true
  .rw[ą c]
   refine⟨ψ ŉ,λi m=>?_⟩
   by_cases e:i=k
   .subst e;exact c
   exact d i ŉ
  rw[ā c]
  show _=_
  rw[ā λe=>c (Ć.1 e _ (ĺ.2 l))]
 obtain⟨rfl,d⟩:=j
 refine(step _).mono (λo g=>?_) a
 subst g
 show _=_
 rw[ą (Ć.2 λx n=>d x (ĺ.1 n))]
theorem yT{α:Type}(l:Ŀ α)(g:l.length<=1000)(f:α->Bool){step:Int->Cq (Int⊕(Bool⊕Unit))}(h:∀k (d:k<l.length),(step (k:Int)).wp λo=>o=if f l[k]=true then .inl (i64.wrap ((k:Int)+1))else .inr (.inl false))
  (a:(step (l.length:Int)).wp λo=>o=.inr (.inr ())):(Cq.loop step 0).wp λo=>o=if l.all f=true then .inr ()else .inl false:=by
 have key:=y5 l.length g (λk=>(l[k]?.map f).getD true) (step:=step) (λk d=>by have:=h k d;rw[Ą d];exact this) a
 have e:((List.range l.length).all λk=>(l[k]?.map f).getD true)=l.all f:=by
  rw[aaR,Ć,Ć];constructor
  .intro c x j;obtain⟨i,hi,rfl⟩:=du j;have:=c i (ĺ.2 hi);rw[Ą hi]at this;exact this
  intro c i hi;have hi:=ĺ.1 hi;rw[Ą hi];exact c _ (Ă hi)
 rw[e]at key
 exact key
def fP(p:Ù)(n d:Int):Bool:=decide ((ï p).toNat<2 ^ n.toNat)&&decide (gi p<=d)
theorem ZyP{p:Ù}{n:Nat}(e:n<=4):(Int.fdiv (i64.wrap (ï p)) (2 ^ (min (n:Int).toNat i64.bits))=0)↔(ï p).toNat<2 ^ n:=by
 have f:=ua p;rw[wrap64 ŉ];obtain⟨u,c⟩:∃u:Nat,ï p=(u:Int):=⟨(ï p).toNat,ŉ⟩;have d:Int.fdiv (ï p) (2 ^ (min (n:Int).toNat i64.bits))=((u / 2 ^ n:Nat):Int):=by rw[c,Ē,Ž (show n<=i64.bits from Ň e ĳ),aaf _ (Int.le_of_lt (Int.pow_pos ĳ))];push_cast;rfl
 rw[d,c,Ē];have hp:=aac n;constructor
 .intro a;have a:u / 2 ^ n=0:=ŉ;rcases eH.1 a with h|h
  .omega
  exact h
 intro a;rw[aaJ a];rfl
theorem Kc{k:Zb}(f:1<=k.n/\k.n<=4){p:Ù}(h:ω p)(d:Int):(é ⟨k⟩ p d).Α (fP p k.n d):=by
 refine⟨true,DS h,_,FA h.len,by show 0<=k.n;omega,?_⟩;obtain⟨n,c⟩:∃n:Nat,k.n=(n:Int):=⟨k.n.toNat,ŉ⟩;have hi:=ZyP (p:=p) (n:=n) ŉ;unfold fP;show Cq.wp (if(Int.fdiv (i64.wrap (ï p)) (2 ^ (min (k.n).toNat i64.bits)))=0 then _ else _) _;rw[c,Ē];by_cases a:(ï p).toNat<2 ^ n
 .rw[ă a,Ť];exact Cq.wp.yes (hi.2 a) ⟨_,yz h,rfl⟩
 rw[Ċ a,Ŷ];exact Cq.wp.no (λe=>a (hi.1 e)) rfl
theorem El{n:Int}(f:1<=n/\n<=4){p:Ù}(h:ω p)(d:Int):(wX p n d).Α (fP p n d):=by
 obtain⟨n,rfl⟩:∃m:Nat,n=(m:Int):=⟨n.toNat,ŉ⟩;have nI:1<=n/\n<=4:=ŉ;have g:=ua p;have c:u64.wrap (n:Int)=(n:Int):=qA ⟨ŉ,ŉ⟩;have a:i64.wrap (1*2 ^ (min (n:Int).toNat i64.bits))=((2 ^ n:Nat):Int):=by
  match n,nI with
  |1,_=>rfl
  |2,_=>rfl
  |3,_=>rfl
  |4,_=>rfl
 refine⟨true,Ah h,_,Af h.len,by rw[c];omega,?_⟩;rw[c,a,wrap64 ŉ];unfold fP;rw[Ē];by_cases e:(ï p).toNat<2 ^ n
 .rw[ă e,Ť];exact Cq.wp.yes ŉ ⟨_,wU h,rfl⟩
 rw[Ċ e,Ŷ];exact Cq.wp.no ŉ rfl
theorem xv{c:Cq (Bool⊕Unit)}{b:Bool}{k:Bool⊕Unit->Cq Bool}(h:c.wp λo=>o=if b=true then .inr ()else .inl false)(d:k (.inl false)=Cq.ret false)(h2:k (.inr ())=Cq.ret true):(c.next k).wp λa=>a=b:=by
 refine c.mono (λo e=>?_) h;subst e;cases b with
 |false=>rw[ā ĳ,d];rfl
 |true=>rw[ą rfl,h2];rfl
theorem Th{k:Zb}(a:1<=k.n/\k.n<=4){l:Ŀ Ù}(c:l.length<=3)(h:∀p∈l,ω p):(Ä ⟨k⟩ l).Α (l.all λp=>fP p k.n 64):=by
 refine Cq.wp.yes ŉ ⟨_,⟨_,xv (yT l ŉ (λp=>fP p k.n 64) (λi hi=>?_) ?_) rfl rfl,rfl⟩,rfl⟩
 .refine Cq.wp.yes ŉ ⟨_,Μ hi,_,⟨_,Kc a (h _ (Ă hi)) 64,rfl⟩,?_⟩;cases fP l[i] k.n 64 with
  |false=>exact Cq.wp.yes rfl rfl
  |true=>exact Cq.wp.no ĳ rfl
 exact Cq.wp.no ŉ rfl
theorem SY{n:Int}(a:1<=n/\n<=4){l:Ŀ Ù}(c:l.length<=3)(h:∀p∈l,ω p):(FK l n).Α (l.all λp=>fP p n 64):=by
 refine xv (yT l ŉ (λp=>fP p n 64) (λi hi=>?_) ?_) rfl rfl
 .refine Cq.wp.yes ŉ ⟨_,Μ hi,_,El a (h _ (Ă hi)) 64,?_⟩;cases fP l[i] n 64 with
  |false=>exact Cq.wp.yes rfl rfl
  |true=>exact Cq.wp.no ĳ rfl
 exact Cq.wp.no ŉ rfl
def lr(s:Ŀ Int):Prop:=s.length<=3/\∀x∈s,-1<=x/\x<=1
theorem Zxp{s:Ŀ Int}(h:lr s):(I2 s).Α true:=by
 have key:=yT s (by have:=h.1;omega) (λ_=>true) (step:=λa=>if a<(s.length:Int)then(Cq.Θ s a λf=>Cq.bind (JP f) λc=>if(!c)=true then(Cq.ret (.inr (.inl false)))else(Cq.ret (.inl (i64.wrap (a+1)))))else(Cq.ret (.inr (.inr ())))) (λi hi=>?_) ?_
 .have e:(s.all λ_=>true)=true:=Ć.2 λ_ _=>rfl;rw[e]at key;exact Cq.eM key rfl
 .have d:=h.2 _ (Ă hi);refine Cq.wp.yes ŉ ⟨_,Μ hi,true,Cq.wp.yes d.1 ?_,Cq.wp.no ĳ rfl⟩;exact ă d.2
 exact Cq.wp.no ŉ rfl
theorem Zu5{s:Ŀ Int}(h:lr s):(K8 s).Α true:=by
 have key:=yT s (by have:=h.1;omega) (λ_=>true) (step:=λa=>if a<(s.length:Int)then(Cq.Θ s a λc=>if c<(-1)then(Cq.ret (.inr (.inl false)))else(Cq.Θ s a λd=>if 1<d then Cq.fail else(Cq.ret (.inl (i64.wrap (a+1))))))else(Cq.ret (.inr (.inr ())))) (λi hi=>?_) ?_
 .have e:(s.all λ_=>true)=true:=Ć.2 λ_ _=>rfl;rw[e]at key;exact Cq.eM key rfl
 .have f:=h.2 _ (Ă hi);exact Cq.wp.yes ŉ ⟨_,Μ hi,Cq.wp.no ŉ ⟨_,Μ hi,Cq.wp.no ŉ rfl⟩⟩
 exact Cq.wp.no ŉ rfl
def nc(x y m:Int):Ŀ Zl:=[l8 x m,l8 y m,l8 0 0,l8 0 0,l8 0 0,l8 0 0,l8 0 0,l8 0 0]
def nM(b:Ŀ Zl):Prop:=∃x y m,gM x/\gM y/\iA m/\b=nc x y m
def k0(x:Zl):Bool:=x.lo.num.χ.isEmpty&&x.hi.num.χ.isEmpty
def ic(n:Int)(b:Ŀ Zl):Bool:=decide (2<=n) || (b[1]?.map k0).getD true
theorem ZzS:(á (-128) 127 λn=>(Ν (nJ n)).num.χ.isEmpty == decide (n=0))=true:=by decide +kernel
theorem ZzM:(á 0 7 λm=>(Ν (oM 0 m)).num.χ.isEmpty == decide (m=0))=true:=by decide +kernel
def wC(n m:Int):Bool:=decide (n=0)&&decide (m=0)
theorem TS{n m:Int}(h:gM n)(c:iA m):k0 (l8 n m)=wC n m:=by
 have l:=eq_of_beq (Zq ZzS h.1 h.2);unfold k0 wC;show((Ν (nJ n)).num.χ.isEmpty&&(Ν (oM n m)).num.χ.isEmpty)=_;rw[l];by_cases a:n=0
 .subst a;rw[eq_of_beq (Zq ZzM c.1 c.2)]
 rw[Ċ a];rfl
theorem US{n m:Int}(h:gM n)(c:iA m):∃a b:Bool,(vl (l8 n m).lo).Α a/\(tu (l8 n m).lo).Α a/\(a=true->(vl (l8 n m).hi).Α b/\(tu (l8 n m).hi).Α b)/\k0 (l8 n m)=(a&&b):=by rw[TS h c];refine⟨_,_,(UU h).1,(UU h).2,λe=>?_,rfl⟩;have e:=ĥ e;subst e;exact ZzK c
theorem L5{x y m:Int}(e:gM x)(f:gM y)(a:iA m){k:Nat}(c:k<8):∃n d,gM n/\iA d/\(0:Int)<=(k:Int)/\(nc x y m)[(k:Int).toNat]?=some (l8 n d)/\(2<=k->n=0/\d=0)/\(k=1->n=y/\d=m):=by
 have z:gM 0/\iA 0:=ĳ;match k,c with
 |0,_=>exact⟨x,m,e,a,ĳ,rfl,λh=>absurd h ĳ,λh=>absurd h ĳ⟩
 |1,_=>exact⟨y,m,f,a,ĳ,rfl,λh=>absurd h ĳ,λ_=>⟨rfl,rfl⟩⟩
 |2,_=>exact⟨0,0,z.1,z.2,ĳ,rfl,λ_=>⟨rfl,rfl⟩,λh=>absurd h ĳ⟩
 |3,_=>exact⟨0,0,z.1,z.2,ĳ,rfl,λ_=>⟨rfl,rfl⟩,λh=>absurd h ĳ⟩
 |4,_=>exact⟨0,0,z.1,z.2,ĳ,rfl,λ_=>⟨rfl,rfl⟩,λh=>absurd h ĳ⟩
 |5,_=>exact⟨0,0,z.1,z.2,ĳ,rfl,λ_=>⟨rfl,rfl⟩,λh=>absurd h ĳ⟩
 |6,_=>exact⟨0,0,z.1,z.2,ĳ,rfl,λ_=>⟨rfl,rfl⟩,λh=>absurd h ĳ⟩
 |7,_=>exact⟨0,0,z.1,z.2,ĳ,rfl,λ_=>⟨rfl,rfl⟩,λh=>absurd h ĳ⟩
def gl(n:Int)(b:Ŀ Zl)(k:Nat):Bool:=decide ((k:Int)<n) || (b[(k:Int).toNat]?.map k0).getD true
theorem SK{n:Int}(q:1<=n/\n<=4){b:Ŀ Zl}(h:nM b):(List.range 8).all (gl n b)=ic n b:=by
 obtain⟨x,y,m,j,l,i,rfl⟩:=h;have z:∀k,2<=k->k<8->gl n (nc x y m) k=true:=λk h2 g=>by obtain⟨a,d,_,_,_,e,p,_⟩:=L5 j l i g;obtain⟨rfl,rfl⟩:=p h2;unfold gl;rw[e];show(_ || k0 (l8 0 0))=true;rw[TS ĳ ĳ];exact abC _
 have c:gl n (nc x y m) 0=true:=by unfold gl;rw[decide_eq_true (show((0:Nat):Int)<n by omega)];rfl
 have f:gl n (nc x y m) 1=ic n (nc x y m):=by unfold gl ic;have:decide (((1:Nat):Int)<n)=decide (2<=n):=ũ.2 ⟨λh=>by omega,λh=>by omega⟩;rw[this];rfl
 show(gl n _ 0&&(gl n _ 1&&(gl n _ 2&&(gl n _ 3&&(gl n _ 4&&(gl n _ 5&&(gl n _ 6&&(gl n _ 7&&true))))))))=_;rw[c,f,z 2 ĳ ĳ,z 3 ĳ ĳ,z 4 ĳ ĳ,z 5 ĳ ĳ,z 6 ĳ ĳ,z 7 ĳ ĳ];simp
theorem Zzh{k:Zb}(p:1<=k.n/\k.n<=4){b:Ŀ Zl}(h:nM b):(dQ ⟨k⟩ b).Α (ic k.n b):=by
 rw[<-SK p h];obtain⟨x,y,m,q,r,n,rfl⟩:=h;refine xv (y5 8 ĳ (gl k.n (nc x y m)) (λi hi=>?_) ?_) rfl rfl
 .obtain⟨a,d,g,j,f,e,_,_⟩:=L5 q r n hi;unfold gl;rw[e];show Cq.wp _ λo=>o=if(_ || k0 (l8 a d))=true then _ else _;by_cases c:(i:Int)<k.n
  .rw[ă c,Ŧ,ą rfl];exact Cq.wp.yes ŉ ⟨_,⟨f,e⟩,Cq.wp.yes c ⟨true,Zoe g j,Cq.wp.no (by show ¬k.n<=(i:Int);omega) rfl⟩⟩
  rw[Ċ c,Ľ];obtain⟨u,v,t,s,z3,l⟩:=US g j;rw[l];refine Cq.wp.yes ŉ ⟨_,⟨f,e⟩,Cq.wp.no c (Cq.wp.yes (by show k.n<=(i:Int);omega) ⟨u,s,?_⟩)⟩;cases u with
  |false=>rfl
  |true=>
   refine⟨v,(z3 rfl).2,?_⟩;cases v with
   |false=>exact Cq.wp.yes rfl rfl
   |true=>exact Cq.wp.no ĳ rfl
 exact Cq.wp.no ĳ rfl
def kl(b:Ŀ (Ŀ Zl)):Prop:=b.length<=3/\∀x∈b,nM x
theorem Sv{k:Zb}(a:1<=k.n/\k.n<=4){l:Ŀ (Ŀ Zl)}(h:kl l):(Á ⟨k⟩ l).Α (l.all (ic k.n)):=by
 have c:=h.1;refine Cq.wp.yes ŉ ⟨_,xv (yT l ŉ (ic k.n) (λi hi=>?_) ?_) rfl rfl,rfl⟩
 .refine Cq.wp.yes ŉ ⟨_,Μ hi,_,Zzh a (h.2 _ (Ă hi)),?_⟩;cases ic k.n l[i]with
  |false=>exact Cq.wp.yes rfl rfl
  |true=>exact Cq.wp.no ĳ rfl
 exact Cq.wp.no ŉ rfl
theorem Zzc{n:Int}(t:1<=n/\n<=4){l:Ŀ (Ŀ Zl)}{j:Nat}(r:j<l.length)(h:nM l[j]):(Qo l n (j:Int) 0).wp λo=>o=if ic n l[j]=true then .inr ()else .inl false:=by
 rw[<-SK t h];have kf:=Μ r;obtain⟨x,y,m,A,B,s,p⟩:=h;rw[p]at kf⊢;refine y5 8 ĳ (gl n (nc x y m)) (λi hi=>?_) ?_
 .obtain⟨a,d,f,g,c,e,_,_⟩:=L5 A B s hi;unfold gl;rw[e];show Cq.wp _ λo=>o=if(_ || k0 (l8 a d))=true then _ else _;by_cases k:(i:Int)<n
  .rw[ă k,Ŧ,ą rfl];exact Cq.wp.yes ŉ ⟨_,kf,_,⟨c,e⟩,true,P2 f g,Cq.wp.no ŉ rfl⟩
  rw[Ċ k,Ľ];obtain⟨u,v,C,D,z3,q⟩:=US f g;rw[q];refine Cq.wp.yes ŉ ⟨_,kf,_,⟨c,e⟩,true,P2 f g,Cq.wp.yes ŉ ⟨_,kf,_,⟨c,e⟩,u,C,?_⟩⟩;cases u with
  |false=>rfl
  |true=>
   refine⟨_,kf,_,⟨c,e⟩,v,(z3 rfl).1,?_⟩;cases v with
   |false=>exact Cq.wp.yes rfl rfl
   |true=>exact Cq.wp.no ĳ rfl
 exact Cq.wp.no ĳ rfl
theorem RE{n:Int}(a:1<=n/\n<=4){l:Ŀ (Ŀ Zl)}(h:kl l):(Fw l n).Α (l.all (ic n)):=by
 have c:=h.1;refine Cq.wp.no ŉ (xv (yT l ŉ (ic n) (λi hi=>?_) ?_) rfl rfl)
 .refine Cq.wp.yes ŉ (Cq.eM (Zzc a hi (h.2 _ (Ă hi))) ?_);cases ic n l[i]with
  |false=>rfl
  |true=>rfl
 exact Cq.wp.no ŉ rfl
end Go.EL

namespace Go.EL
open Go.IntKind (i8 i16 i32 i64 u8 u16 u32 u64)
open Go Go.RowKit
theorem Cq.wp.nr{α:Type}{p:Prop}[Decidable p]{A B:Cq α}{q:α->Prop}(e:decide p=false)(h:B.wp q):(if p then A else B).wp q:=Cq.wp.no (aaY e) h
def rF(l:Ŀ Ù):Prop:=l.length<=3/\∀p∈l,ω p
inductive Ë:Zj->Prop
 |hZ (c:Int) (p:Ù):c=1\/c=2\/c=10->ω p->Ë ⟨c,p,0,0,0,[],[],[],[]⟩
 |nil (c:Int):c=3\/c=9->Ë ⟨c,[],0,0,0,[],[],[],[]⟩
 |GQ (o:Ord) (l:Ŀ Ù):o∈kO->rF l->Ë ⟨4,[],0,0,0,o,l,[],[]⟩
 |BK (n d:Int):0<=n/\n<=15->-1<=d/\d<=2->Ë ⟨5,[],n,d,0,[],[],[],[]⟩
 |HH (n d r:Int):0<=r/\r<=d/\d<=n/\n<=7->Ë ⟨6,[],n,d,r,[],[],[],[]⟩
 |box (b:Ŀ (Ŀ Zl)):kl b->Ë ⟨7,[],0,0,0,[],[],[],b⟩
 |sig (p:Ù) (s:Ŀ Int) (b:Ŀ (Ŀ Zl)):ω p->lr s->s.length=b.length->kl b->Ë ⟨8,p,0,0,0,[],[],s,b⟩
 |uX (l:Ŀ Ù):rF l->Ë ⟨11,[],0,0,0,[],l,[],[]⟩
 |zy (c n:Int):c=12\/c=13->0<=n/\n<=7->Ë ⟨c,[],n,0,0,[],[],[],[]⟩
def ä(k:Zb)(c:Zj):Bool:=fP c.p k.n 12&&c.l.all (λp=>fP p k.n 64)&&c.b.all (ic k.n)&&(decide (c.kind≠5) || decide (c.d<=k.n))
theorem oC{n:Int}:fP [] n 12=true:=by have h:(ï []).toNat<2 ^ n.toNat:=aac _;unfold fP;rw[ă h];rfl
theorem ts:(ZO ⟨0,[],0,0,0,[],[],[],[]⟩).Α true:=Cq.Α.me 20 (by decide +kernel)
theorem Zn2{k:Zb}(h:ç k){c:Zj}(u:Ë c):(Ez k c).Α (ä k c):=by
 have i:=h.n;have B:(Â ⟨k⟩).Α true:=by have:=E6 h;obtain⟨v,t,h2⟩:=this;have h2:v=true:=h2;subst h2;exact t
 refine⟨_,⟨true,B,Cq.wp.nr rfl ?_⟩,rfl⟩;cases u with
 |hZ c p g hp=>
  have e:ä k ⟨c,p,0,0,0,[],[],[],[]⟩=fP p k.n 12:=by unfold ä;rw[ă (show c≠5 by omega)];simp
  rw[e];have k3:(í ⟨⟨k⟩,⟨c,p,0,0,0,[],[],[],[]⟩⟩ true).Α (fP p k.n 12):=by
   refine Cq.wp.yes rfl ⟨_,Kc i hp 12,?_⟩;cases fP p k.n 12 with
   |false=>exact Cq.wp.nr rfl rfl
   |true=>exact Cq.wp.yes rfl ⟨_,ts,rfl⟩
  rcases g with rfl|rfl|rfl
  .exact Cq.wp.yes rfl k3
  .exact Cq.wp.nr rfl (Cq.wp.yes rfl k3)
  exact Cq.wp.nr rfl (Cq.wp.nr rfl k3)
 |nil c g=>
  have e:ä k ⟨c,[],0,0,0,[],[],[],[]⟩=true:=by unfold ä;rw[ă (show c≠5 by omega),oC];rfl
  rw[e];have k2:(ù ⟨⟨k⟩,⟨c,[],0,0,0,[],[],[],[]⟩⟩ true).Α true:=Cq.wp.yes rfl (by
   rcases g with rfl|rfl
   .exact⟨_,ts,rfl⟩
   exact⟨_,ts,rfl⟩)
  rcases g with rfl|rfl
  .exact Cq.wp.nr rfl (Cq.wp.nr rfl (Cq.wp.nr rfl (Cq.wp.yes rfl k2)))
  exact Cq.wp.nr rfl (Cq.wp.nr rfl (Cq.wp.nr rfl (Cq.wp.nr rfl k2)))
 |GQ o l y f=>
  have e:ä k ⟨4,[],0,0,0,o,l,[],[]⟩=l.all λp=>fP p k.n 64:=by unfold ä;rw[oC];simp
  rw[e];refine Cq.wp.nr rfl (Cq.wp.nr rfl (Cq.wp.nr rfl (Cq.wp.nr rfl (Cq.wp.nr rfl (Cq.wp.yes rfl ⟨true,E5 (kE.of (jV.b (.inl y)).1),_,Th i f.1 f.2,?_⟩)))));cases l.all λp=>fP p k.n 64 with
  |false=>exact Cq.wp.nr rfl rfl
  |true=>exact Cq.wp.yes rfl ⟨_,ts,rfl⟩
 |BK n d j x=>
  have e:ä k ⟨5,[],n,d,0,[],[],[],[]⟩=decide (d<=k.n):=by unfold ä;rw[oC];simp
  rw[e];refine Cq.wp.nr rfl (Cq.wp.nr rfl (Cq.wp.nr rfl (Cq.wp.nr rfl (Cq.wp.nr rfl (Cq.wp.nr rfl (Cq.wp.yes rfl (Cq.wp.yes x.1 ?_)))))));by_cases a:d<=k.n
  .rw[ă a];exact Cq.wp.yes a ⟨true,Cq.wp.yes j.1 (ă (show n<=1000000 by omega)),Cq.wp.yes rfl ⟨_,ts,rfl⟩⟩
  rw[Ċ a];exact Cq.wp.no a rfl
 |HH n d r hr=>
  have e:ä k ⟨6,[],n,d,r,[],[],[],[]⟩=true:=by unfold ä;rw[oC];rfl
  rw[e];refine Cq.wp.nr rfl (Cq.wp.nr rfl (Cq.wp.nr rfl (Cq.wp.nr rfl (Cq.wp.nr rfl (Cq.wp.nr rfl (Cq.wp.nr rfl (Cq.wp.yes rfl ?_)))))));exact Cq.wp.yes hr.1 (Cq.wp.yes hr.2.1 (Cq.wp.yes hr.2.2.1 ⟨true,Cq.wp.yes (show 0<=n by omega) (ă (show n<=1000000 by omega)),Cq.wp.yes rfl ⟨_,ts,rfl⟩⟩))
 |box b m=>
  have e:ä k ⟨7,[],0,0,0,[],[],[],b⟩=b.all (ic k.n):=by unfold ä;rw[oC];simp
  rw[e];refine Cq.wp.nr rfl (Cq.wp.nr rfl (Cq.wp.nr rfl (Cq.wp.nr rfl (Cq.wp.nr rfl (Cq.wp.nr rfl (Cq.wp.nr rfl (Cq.wp.nr rfl (Cq.wp.yes rfl ⟨_,Sv i m,?_⟩))))))));cases b.all (ic k.n)with
  |false=>exact Cq.wp.nr rfl rfl
  |true=>exact Cq.wp.yes rfl ⟨_,ts,rfl⟩
 |sig p s b hp A f m=>
  have e:ä k ⟨8,p,0,0,0,[],[],s,b⟩=(fP p k.n 12&&b.all (ic k.n)):=by unfold ä;simp
  rw[e];refine Cq.wp.nr rfl (Cq.wp.nr rfl (Cq.wp.nr rfl (Cq.wp.nr rfl (Cq.wp.nr rfl (Cq.wp.nr rfl (Cq.wp.nr rfl (Cq.wp.nr rfl (Cq.wp.nr rfl (Cq.wp.yes rfl ⟨_,Kc i hp 12,?_⟩)))))))));cases fP p k.n 12 with
  |false=>rfl
  |true=>
   refine⟨_,Sv i m,?_⟩;cases b.all (ic k.n)with
   |false=>rfl
   |true=>exact Cq.wp.yes (show(s.length:Int)=(b.length:Int) by rw[f]) ⟨true,Zxp A,Cq.wp.yes rfl ⟨_,ts,rfl⟩⟩
 |uX l f=>
  have e:ä k ⟨11,[],0,0,0,[],l,[],[]⟩=l.all λp=>fP p k.n 64:=by unfold ä;rw[oC];simp
  rw[e];refine Cq.wp.nr rfl (Cq.wp.nr rfl (Cq.wp.nr rfl (Cq.wp.nr rfl (Cq.wp.nr rfl (Cq.wp.nr rfl (Cq.wp.nr rfl (Cq.wp.nr rfl (Cq.wp.nr rfl (Cq.wp.nr rfl (Cq.wp.yes rfl ⟨_,Th i f.1 f.2,?_⟩))))))))));cases l.all λp=>fP p k.n 64 with
  |false=>exact Cq.wp.nr rfl rfl
  |true=>exact Cq.wp.yes rfl ⟨_,ts,rfl⟩
 |zy c n g j=>
  have e:ä k ⟨c,[],n,0,0,[],[],[],[]⟩=true:=by unfold ä;rw[ă (show c≠5 by omega),oC];rfl
  rw[e];have q:(ø ⟨⟨k⟩,⟨c,[],n,0,0,[],[],[],[]⟩⟩ true).Α true:=
   Cq.wp.yes rfl ⟨true,Cq.wp.yes j.1 (ă (show n<=1000000 by omega)),Cq.wp.yes rfl ⟨_,ts,rfl⟩⟩
  rcases g with rfl|rfl
  .exact Cq.wp.nr rfl (Cq.wp.nr rfl (Cq.wp.nr rfl (Cq.wp.nr rfl (Cq.wp.nr rfl (Cq.wp.nr rfl (Cq.wp.nr rfl (Cq.wp.nr rfl (Cq.wp.nr rfl (Cq.wp.nr rfl (Cq.wp.nr rfl (Cq.wp.yes rfl q)))))))))))
  exact Cq.wp.nr rfl (Cq.wp.nr rfl (Cq.wp.nr rfl (Cq.wp.nr rfl (Cq.wp.nr rfl (Cq.wp.nr rfl (Cq.wp.nr rfl (Cq.wp.nr rfl (Cq.wp.nr rfl (Cq.wp.nr rfl (Cq.wp.nr rfl (Cq.wp.nr rfl q)))))))))))
end Go.EL

namespace Go.EL
open Go.IntKind (i8 i16 i32 i64 u8 u16 u32 u64)
open Go Go.RowKit
theorem Zu1{k:Zb}(h:ç k){c:Zj}(y:Ë c):(Fv k c).Α (ä k c):=by
 have m:=h.n;refine⟨true,Kb h,Cq.wp.nr rfl ?_⟩;have a:(wX [] k.n 12).Α true:=by have:=El m (ω.of ĳ:ω []) 12;rwa [oC]at this
 cases y with
 |hZ c p q hp=>
  have e:ä k ⟨c,p,0,0,0,[],[],[],[]⟩=fP p k.n 12:=by unfold ä;rw[ă (show c≠5 by omega)];simp
  rw[e];refine Cq.wp.yes rfl (Cq.wp.yes rfl ⟨_,El m hp 12,?_⟩);have k3:(Ag k ⟨c,p,0,0,0,[],[],[],[]⟩ (decide ((0:Int)=0)) (fP p k.n 12) true).Α (fP p k.n 12):=by
   refine Cq.wp.yes rfl ?_;cases fP p k.n 12 with
   |false=>exact Cq.wp.nr rfl rfl
   |true=>exact Cq.wp.yes rfl (Cq.wp.yes rfl (Cq.wp.yes rfl (Cq.wp.yes rfl (Cq.wp.yes rfl rfl))))
  rcases q with rfl|rfl|rfl
  .exact Cq.wp.yes rfl k3
  .exact Cq.wp.nr rfl (Cq.wp.yes rfl k3)
  exact Cq.wp.nr rfl (Cq.wp.nr rfl k3)
 |nil c q=>
  have e:ä k ⟨c,[],0,0,0,[],[],[],[]⟩=true:=by unfold ä;rw[ă (show c≠5 by omega),oC];rfl
  rw[e];refine Cq.wp.yes rfl (Cq.wp.yes rfl ⟨_,a,?_⟩);have k2:(Er k ⟨c,[],0,0,0,[],[],[],[]⟩ (decide ((0:Int)=0)) true true).Α true:=
   Cq.wp.yes rfl (Cq.wp.yes rfl (Cq.wp.yes rfl (Cq.wp.yes rfl (Cq.wp.yes rfl (Cq.wp.yes rfl rfl)))))
  rcases q with rfl|rfl
  .exact Cq.wp.nr rfl (Cq.wp.nr rfl (Cq.wp.nr rfl (Cq.wp.yes rfl k2)))
  exact Cq.wp.nr rfl (Cq.wp.nr rfl (Cq.wp.nr rfl (Cq.wp.nr rfl k2)))
 |GQ o l B j=>
  have e:ä k ⟨4,[],0,0,0,o,l,[],[]⟩=l.all λp=>fP p k.n 64:=by unfold ä;rw[oC];simp
  rw[e];refine Cq.wp.yes rfl (Cq.wp.yes rfl ⟨_,a,Cq.wp.nr rfl (Cq.wp.nr rfl (Cq.wp.nr rfl (Cq.wp.nr rfl (Cq.wp.nr rfl (Cq.wp.yes rfl ?_)))))⟩);exact Cq.wp.yes rfl (Cq.wp.yes rfl (Cq.wp.yes rfl (Cq.wp.yes rfl ⟨true,Ey (kE.of (jV.b (.inl B)).1),Cq.wp.yes (by have:=j.1;show(l.length:Int)<=64;omega) ⟨_,SY m j.1 j.2,rfl⟩⟩)))
 |BK n d t A=>
  have e:ä k ⟨5,[],n,d,0,[],[],[],[]⟩=decide (d<=k.n):=by unfold ä;rw[oC];simp
  rw[e];have g:∀v,(wP k ⟨5,[],n,d,0,[],[],[],[]⟩ v).Α (decide (d<=k.n)):=λv=>by
   refine⟨_,a,Cq.wp.nr rfl (Cq.wp.nr rfl (Cq.wp.nr rfl (Cq.wp.nr rfl (Cq.wp.nr rfl (Cq.wp.nr rfl (Cq.wp.yes rfl ?_))))))⟩;refine Cq.wp.yes rfl (Cq.wp.yes rfl (Cq.wp.yes rfl (Cq.wp.yes rfl (Cq.wp.yes rfl (Cq.wp.yes rfl (Cq.wp.yes A.1 ?_))))));by_cases i:d<=k.n
   .rw[ă i];exact Cq.wp.yes i ⟨true,Cq.wp.yes t.1 (ă (show n<=1000000 by omega)),rfl⟩
   rw[Ċ i];exact Cq.wp.no i rfl
  by_cases f:n=0
  .by_cases h2:d=0
   .exact Cq.wp.yes f (Cq.wp.yes h2 (g _))
   exact Cq.wp.yes f (Cq.wp.no h2 (g _))
  exact Cq.wp.no f (g _)
 |HH n d r hr=>
  have e:ä k ⟨6,[],n,d,r,[],[],[],[]⟩=true:=by unfold ä;rw[oC];rfl
  rw[e];have g:∀v,(wP k ⟨6,[],n,d,r,[],[],[],[]⟩ v).Α true:=λv=>by refine⟨_,a,Cq.wp.nr rfl (Cq.wp.nr rfl (Cq.wp.nr rfl (Cq.wp.nr rfl (Cq.wp.nr rfl (Cq.wp.nr rfl (Cq.wp.nr rfl (Cq.wp.yes rfl ?_)))))))⟩;exact Cq.wp.yes rfl (Cq.wp.yes rfl (Cq.wp.yes rfl (Cq.wp.yes rfl (Cq.wp.yes rfl ⟨true,Cq.wp.yes (show 0<=n by omega) (ă (show n<=1000000 by omega)),Cq.wp.yes hr.1 (Cq.wp.yes hr.2.1 (ă hr.2.2.1))⟩))))
  by_cases f:n=0
  .by_cases h2:d=0
   .exact Cq.wp.yes f (Cq.wp.yes h2 (g _))
   exact Cq.wp.yes f (Cq.wp.no h2 (g _))
  exact Cq.wp.no f (g _)
 |box b u=>
  have e:ä k ⟨7,[],0,0,0,[],[],[],b⟩=b.all (ic k.n):=by unfold ä;rw[oC];simp
  rw[e];refine Cq.wp.yes rfl (Cq.wp.yes rfl ⟨_,a,Cq.wp.nr rfl (Cq.wp.nr rfl (Cq.wp.nr rfl (Cq.wp.nr rfl (Cq.wp.nr rfl (Cq.wp.nr rfl (Cq.wp.nr rfl (Cq.wp.nr rfl (Cq.wp.yes rfl ?_))))))))⟩);exact Cq.wp.yes rfl (Cq.wp.yes rfl (Cq.wp.yes rfl (Cq.wp.yes rfl (Cq.wp.yes rfl ⟨_,RE m u,rfl⟩))))
 |sig p s b hp C j u=>
  have e:ä k ⟨8,p,0,0,0,[],[],s,b⟩=(fP p k.n 12&&b.all (ic k.n)):=by unfold ä;simp
  rw[e];refine Cq.wp.yes rfl (Cq.wp.yes rfl ⟨_,El m hp 12,Cq.wp.nr rfl (Cq.wp.nr rfl (Cq.wp.nr rfl (Cq.wp.nr rfl (Cq.wp.nr rfl (Cq.wp.nr rfl (Cq.wp.nr rfl (Cq.wp.nr rfl (Cq.wp.nr rfl (Cq.wp.yes rfl ?_)))))))))⟩);cases fP p k.n 12 with
  |false=>exact Cq.wp.nr rfl rfl
  |true=>
   refine Cq.wp.yes rfl (Cq.wp.yes rfl (Cq.wp.yes rfl (Cq.wp.yes rfl ⟨_,RE m u,?_⟩)));cases b.all (ic k.n)with
   |false=>rfl
   |true=>exact Cq.wp.yes (show(s.length:Int)=(b.length:Int) by rw[j]) ⟨true,Zu5 C,rfl⟩
 |uX l j=>
  have e:ä k ⟨11,[],0,0,0,[],l,[],[]⟩=l.all λp=>fP p k.n 64:=by unfold ä;rw[oC];simp
  rw[e];refine Cq.wp.yes rfl (Cq.wp.yes rfl ⟨_,a,Cq.wp.nr rfl (Cq.wp.nr rfl (Cq.wp.nr rfl (Cq.wp.nr rfl (Cq.wp.nr rfl (Cq.wp.nr rfl (Cq.wp.nr rfl (Cq.wp.nr rfl (Cq.wp.nr rfl (Cq.wp.nr rfl (Cq.wp.yes rfl ?_))))))))))⟩);exact Cq.wp.yes rfl (Cq.wp.yes rfl (Cq.wp.yes rfl (Cq.wp.yes rfl (Cq.wp.yes rfl (Cq.wp.yes (by have:=j.1;show(l.length:Int)<=64;omega) ⟨_,SY m j.1 j.2,rfl⟩)))))
 |zy c n q t=>
  have e:ä k ⟨c,[],n,0,0,[],[],[],[]⟩=true:=by unfold ä;rw[ă (show c≠5 by omega),oC];rfl
  rw[e];have x:(Ep ⟨c,[],n,0,0,[],[],[],[]⟩ true).Α true:=
   Cq.wp.yes rfl (Cq.wp.yes rfl (Cq.wp.yes rfl (Cq.wp.yes rfl (Cq.wp.yes rfl (Cq.wp.yes rfl (Cq.wp.yes rfl (Cq.wp.yes rfl ⟨true,Cq.wp.yes t.1 (ă (show n<=1000000 by omega)),rfl⟩)))))))
  have g:∀v,(wP k ⟨c,[],n,0,0,[],[],[],[]⟩ v).Α true:=λv=>by
   refine⟨_,a,?_⟩;rcases q with rfl|rfl
   .exact Cq.wp.nr rfl (Cq.wp.nr rfl (Cq.wp.nr rfl (Cq.wp.nr rfl (Cq.wp.nr rfl (Cq.wp.nr rfl (Cq.wp.nr rfl (Cq.wp.nr rfl (Cq.wp.nr rfl (Cq.wp.nr rfl (Cq.wp.nr rfl (Cq.wp.yes rfl x)))))))))))
   exact Cq.wp.nr rfl (Cq.wp.nr rfl (Cq.wp.nr rfl (Cq.wp.nr rfl (Cq.wp.nr rfl (Cq.wp.nr rfl (Cq.wp.nr rfl (Cq.wp.nr rfl (Cq.wp.nr rfl (Cq.wp.nr rfl (Cq.wp.nr rfl (Cq.wp.nr rfl x)))))))))))
  by_cases f:n=0
  .exact Cq.wp.yes f (Cq.wp.yes rfl (g _))
  exact Cq.wp.no f (g _)
end Go.EL

namespace Go.EL
open Go.IntKind (i8 i16 i32 i64 u8 u16 u32 u64)
open Go Go.RowKit
theorem Sx{p q:Ù}(hp:ω p)(a:ω q):decide (ë p q=0)=decide (p=q):=by refine ũ.2 ⟨AS hp.gq a.gq,?_⟩;rintro rfl;exact xn p
theorem Sf{p q:Ù}(hp:ω p)(a:ω q):(ZU p q).Α (decide (p=q)):=by have:=E4 hp.gq a.gq;rwa [Sx hp a]at this
theorem R4{p q:Ù}(hp:ω p)(a:ω q):(tT p q).Α (decide (p=q)):=by have:=Ku hp.gq a.gq;rwa [Sx hp a]at this
def n4(a b:Ord)(k:Nat):Bool:=decide (a[k]?=b[k]?)
theorem T4{a b:Ord}(h:a.length=b.length):(List.range a.length).all (n4 a b)=decide (a=b):=by
 rw[aaR,Ć,Ę];constructor
 .intro c;refine Ÿ λk=>?_;by_cases d:k<a.length
  .exact ĥ (c k (ĺ.2 d))
  rw[ł ŉ,ł ŉ]
 rintro rfl k _;exact ă rfl
theorem T3{a b:Ord}{k:Nat}(c:k<a.length)(d:k<b.length):n4 a b k=decide (a[k]=b[k]):=by unfold n4;rw[Ą c,Ą d];exact ũ.2 ⟨λe=>Ů e,λe=>đ some e⟩
theorem Zsr{a b:Ord}(f:a.length<=1000):(Eh a b).Α (decide (a=b)):=by
 by_cases d:a.length=b.length
 .refine Cq.wp.no (λe=>e ŉ) ?_;rw[<-T4 d];refine xv (y5 a.length f (n4 a b) (λk c=>?_) ?_) rfl rfl
  .rw[T3 c ŉ];refine Cq.wp.yes ŉ ⟨_,Μ c,_,Μ (show k<b.length by omega),?_⟩;by_cases e:a[k]=b[k]
   .rw[ă e];exact Cq.wp.no (λh=>h e) rfl
   rw[Ċ e];exact Cq.wp.yes e rfl
  exact Cq.wp.no ŉ rfl
 refine Cq.wp.yes ŉ ?_;show _=_;rw[Ċ λe=>d (đ List.length e)]
theorem ZpA{a b:Ord}(f:a.length<=1000):(FG a b).Α (decide (a=b)):=by
 by_cases d:a.length=b.length
 .refine Cq.wp.no (λe=>e ŉ) ?_;rw[<-T4 d];refine xv (y5 a.length f (n4 a b) (λk c=>?_) ?_) rfl rfl
  .rw[T3 c ŉ];refine Cq.wp.yes ŉ ⟨_,Μ c,_,Μ (show k<b.length by omega),?_⟩;by_cases e:a[k]=b[k]
   .rw[ă e];exact Cq.wp.no (λh=>h e) rfl
   rw[Ċ e];exact Cq.wp.yes e rfl
  exact Cq.wp.no ŉ rfl
 refine Cq.wp.yes ŉ ?_;show _=_;rw[Ċ λe=>d (đ List.length e)]
theorem Ë.parts{c:Zj}(h:Ë c):ω c.p/\jV c.o/\(0<=c.n/\c.n<=15)/\(0<=c.r/\c.r<=15)/\c.b.length<=3:=by
 have p0:ω []:=ω.of ĳ;have o0:jV []:=(fa.nil 0).o;have z:(0:Int)<=0/\(0:Int)<=15:=ĳ;have l0:([]:Ŀ (Ŀ Zl)).length<=3:=ĳ;cases h with
 |hZ c p _ hp=>exact⟨hp,o0,z,z,l0⟩
 |nil c _=>exact⟨p0,o0,z,z,l0⟩
 |GQ o l f _=>exact⟨p0,.inl f,z,z,l0⟩
 |BK n d e _=>exact⟨p0,o0,e,z,l0⟩
 |HH n d r h=>exact⟨p0,o0,by show 0<=n/\n<=15;omega,by show 0<=r/\r<=15;omega,l0⟩
 |box b a=>exact⟨p0,o0,z,z,a.1⟩
 |sig p s b hp _ _ a=>exact⟨hp,o0,z,z,a.1⟩
 |uX l _=>exact⟨p0,o0,z,z,l0⟩
 |zy c n _ e=>exact⟨p0,o0,by show 0<=n/\n<=15;omega,z,l0⟩
def qC(k:Zb)(q:Zc)(c:Zj):Bool:=
 if q.kind=1 then decide (c.kind=1\/c.kind=2)&&decide (q.p=c.p)
 else if q.kind=2 then decide (c.kind=3) || (decide (c.kind=2)&&decide (k.δ=[])&&decide (c.p=iV))
 else if q.kind=3 then decide (c.kind=4)&&decide (q.o=c.o)
 else if q.kind=4 then decide (c.kind=5)
 else if q.kind=5 then decide (c.kind=6)
 else if q.kind=6 then decide (c.kind=7)
 else if q.kind=7 then decide (c.kind=8)&&decide (q.p=c.p)
 else if q.kind=8 then decide (c.kind=9) || decide (c.kind=6) || (decide (c.kind=13)&&decide (1<=c.n))
 else if q.kind=9 then decide (c.kind=10)&&decide (q.p=c.p)
 else if q.kind=10 then decide (c.kind=11)else false
theorem ZT{α:Type}{p:Prop}[Decidable p]{A B:Cq α}{a b:α}(c:p->A.Α a)(h2:¬p->B.Α b):(if p then A else B).Α (if p then a else b):=by
 by_cases h:p
 .refine Cq.wp.yes h ?_;rw[ą h];exact c h
 refine Cq.wp.no h ?_;rw[ā h];exact h2 h
theorem pn{p:Prop}[Decidable p]{A:Cq Bool}{b:Bool}(h:A.Α b):(if p then A else Cq.ret false).Α (decide p&&b):=by
 by_cases hp:p
 .rw[ă hp,Ť];exact Cq.wp.yes hp h
 rw[Ċ hp,Ŷ];exact Cq.wp.no hp rfl
theorem CD{α:Type}[DecidableEq α](l:Ŀ α):decide ((l.length:Int)=0)=decide (l=[]):=by
 cases l with
 |nil=>rfl
 |cons a l=>simp;omega
theorem ZsG{k:Zb}{q:Zc}(j:fa q){c:Zj}(g:Ë c):(Jz k q c).Α (qC k q c):=by
 obtain⟨hp,i,_⟩:=g.parts;have f:(Cq.bind (ZU c.p q.p) λy=>Cq.ret y).Α (decide (q.p=c.p)):=by have:=Sf hp j.p;rw[show decide (c.p=q.p)=decide (q.p=c.p)from ũ.2 ⟨Eq.symm,Eq.symm⟩]at this;exact⟨_,this,rfl⟩
 have hr:(Cq.bind (Eh c.o q.o) λy=>Cq.ret y).Α (decide (q.o=c.o)):=by have:=Zsr (b:=q.o) (show c.o.length<=1000 by have:=(kE.of i.b.1).len;omega);rw[show decide (c.o=q.o)=decide (q.o=c.o)from ũ.2 ⟨Eq.symm,Eq.symm⟩]at this;exact⟨_,this,rfl⟩
 unfold qC;refine ZT (λ_=>?_) λ_=>ZT (λ_=>?_) λ_=>ZT (λ_=>pn hr) λ_=>ZT (λ_=>rfl) λ_=>ZT (λ_=>rfl) λ_=>ZT (λ_=>rfl) λ_=>ZT (λ_=>pn f) λ_=>ZT (λ_=>?_) λ_=>ZT (λ_=>pn f) λ_=>ZT (λ_=>rfl) λ_=>rfl
 .by_cases a:c.kind=1
  .rw[ă (show c.kind=1\/c.kind=2 from .inl a),Ť];exact Cq.wp.yes a f
  rw[show decide (c.kind=1\/c.kind=2)=decide (c.kind=2)from ũ.2 ⟨λh=>h.resolve_left a,.inr⟩];exact Cq.wp.no a (pn f)
 .refine⟨û 1,(xE (n:=1) ĳ).2,iV,pX,?_⟩;by_cases h3:c.kind=3
  .rw[ă h3,Ŧ];exact Cq.wp.yes h3 rfl
  rw[Ċ h3,Ľ,Bool.and_assoc,<-CD];exact Cq.wp.no h3 (pn (pn ⟨_,Sf hp Bj,rfl⟩))
 by_cases e:c.kind=9
 .rw[ă e,Ŧ,Ŧ];exact Cq.wp.yes e rfl
 rw[Ċ e,Ľ];refine Cq.wp.no e ?_;by_cases d:c.kind=6
 .rw[ă d,Ŧ];exact Cq.wp.yes d rfl
 rw[Ċ d,Ľ];exact Cq.wp.no d (pn rfl)
theorem Zra{k:Zb}{q:Zc}(f:fa q){c:Zj}(g:Ë c):(J6 k q c).Α (qC k q c):=by
 obtain⟨hp,i,_⟩:=g.parts;refine⟨_,R4 f.p hp,?_⟩;have hr:(Cq.bind (FG q.o c.o) λy=>Cq.ret y).Α (decide (q.o=c.o)):=⟨_,ZpA (show q.o.length<=1000 by have:=(kE.of f.o.b.1).len;omega),rfl⟩;unfold qC;refine ZT (λ_=>?_) λ_=>ZT (λ_=>?_) λ_=>ZT (λ_=>pn hr) λ_=>ZT (λ_=>rfl) λ_=>ZT (λ_=>rfl) λ_=>ZT (λ_=>rfl) λ_=>ZT (λ_=>pn rfl) λ_=>ZT (λ_=>?_) λ_=>ZT (λ_=>pn rfl) λ_=>ZT (λ_=>rfl) λ_=>rfl
 .by_cases a:c.kind=1
  .rw[ă (show c.kind=1\/c.kind=2 from .inl a),Ť];exact Cq.wp.yes a rfl
  rw[show decide (c.kind=1\/c.kind=2)=decide (c.kind=2)from ũ.2 ⟨λh=>h.resolve_left a,.inr⟩];exact Cq.wp.no a (pn rfl)
 .by_cases h3:c.kind=3
  .rw[ă h3,Ŧ];exact Cq.wp.yes h3 rfl
  rw[Ċ h3,Ľ,show(decide (c.kind=2)&&decide (k.δ=[])&&decide (c.p=iV))=(decide (k.δ=[])&&(decide (c.kind=2)&&decide (c.p=iV))) by rw[Bool.and_comm (decide (c.kind=2)),Bool.and_assoc],<-CD];exact Cq.wp.no h3 (pn (pn ⟨_,(xE (n:=1) ĳ).1,iV,pZ,_,R4 hp Bj,rfl⟩))
 by_cases e:c.kind=9
 .rw[ă e,Ŧ,Ŧ];exact Cq.wp.yes e rfl
 rw[Ċ e,Ľ];refine Cq.wp.no e ?_;by_cases d:c.kind=6
 .rw[ă d,Ŧ];exact Cq.wp.yes d rfl
 rw[Ċ d,Ľ];exact Cq.wp.no d (pn rfl)
def mj(q:Zc)(c:Zj):Int×Int:=
 if q.kind=5 then(if c.kind=6 then(c.n,c.n)else if c.kind=12 then(0,c.n)else(0,-1))
 else if q.kind=8\/q.kind=6 then(if c.kind=6 then(c.r,c.r)else if c.kind=7\/c.kind=8 then((c.b.length:Int),(c.b.length:Int))else if c.kind=9 then(0,0)else if c.kind=13 then(c.n,-1)else if c.kind=12 then(0,c.n)else(0,-1))
 else(0,-1)
theorem ZuI(q:Zc)(c:Zj):(JO q c).Α (mj q c):=by
 have e:(DT c (decide (c.kind=8))).Α (if c.kind=8 then((c.b.length:Int),(c.b.length:Int))else if c.kind=9 then(0,0)else if c.kind=13 then(c.n,-1)else if c.kind=12 then(0,c.n)else(0,-1)):=by
  by_cases a:c.kind=8
  .rw[ą a];exact Cq.wp.yes (ă a) rfl
  rw[ā a];exact Cq.wp.no (by simpa using a) (ZT (λ_=>rfl) λ_=>ZT (λ_=>rfl) λ_=>ZT (λ_=>rfl) λ_=>rfl)
 have k2:(DU c true).Α (if c.kind=6 then(c.r,c.r)else if c.kind=7\/c.kind=8 then((c.b.length:Int),(c.b.length:Int))else if c.kind=9 then(0,0)else if c.kind=13 then(c.n,-1)else if c.kind=12 then(0,c.n)else(0,-1)):=by
  refine Cq.wp.yes rfl (ZT (λ_=>rfl) λ_=>?_);by_cases h7:c.kind=7
  .rw[ą (Or.inl h7)];refine Cq.wp.yes h7 ?_;rw[ă h7];exact Cq.wp.yes rfl rfl
  refine Cq.wp.no h7 ?_;rw[show(if c.kind=7\/c.kind=8 then((c.b.length:Int),(c.b.length:Int))else if c.kind=9 then(0,0)else if c.kind=13 then(c.n,-1)else if c.kind=12 then(0,c.n)else(0,-1))=(if c.kind=8 then((c.b.length:Int),(c.b.length:Int))else if c.kind=9 then(0,0)else if c.kind=13 then(c.n,-1)else if c.kind=12 then(0,c.n)else(0,-1)) by simp only[h7,false_or]];exact e
 unfold mj;refine ZT (λ_=>ZT (λ_=>rfl) λ_=>ZT (λ_=>rfl) λ_=>rfl) λ_=>?_;by_cases a:q.kind=8
 .rw[ą (Or.inl a)];refine Cq.wp.yes a ?_;rw[ă a];exact k2
 refine Cq.wp.no a ?_;by_cases d:q.kind=6
 .rw[ą (Or.inr d),ă d];exact k2
 rw[ā ŉ,Ċ d];exact Cq.wp.no ĳ rfl
end Go.EL

namespace Go.EL
open Go.IntKind (i8 i16 i32 i64 u8 u16 u32 u64)
open Go Go.RowKit
theorem zb{α:Type}{p:Prop}[Decidable p]{A B:Cq α}{a b:α}(c:p->A.Α a)(h2:¬p->B.Α b):(if decide p=true then A else B).Α (if p then a else b):=by
 by_cases h:p
 .refine Cq.wp.yes (ă h) ?_;rw[ą h];exact c h
 refine Cq.wp.no (by rw[Ċ h];decide) ?_;rw[ā h];exact h2 h
theorem Ztn(q:Zc)(c:Zj):(Ks q c).Α (mj q c):=by
 have i:(yq c true false).Α (if c.kind=6 then(c.n,c.n)else if c.kind=12 then(0,c.n)else(0,-1)):=
  Cq.wp.yes rfl (zb (λ_=>rfl) λ_=>Cq.wp.yes rfl (zb (λ_=>rfl) λ_=>Cq.wp.nr rfl (Cq.wp.nr rfl (Cq.wp.nr rfl (Cq.wp.nr rfl (Cq.wp.nr rfl (Cq.wp.nr rfl rfl)))))))
 have j:(yq c false false).Α (0,-1):=
  Cq.wp.nr rfl (Cq.wp.nr rfl (Cq.wp.nr rfl (Cq.wp.nr rfl (Cq.wp.nr rfl (Cq.wp.nr rfl (Cq.wp.nr rfl (Cq.wp.nr rfl (Cq.wp.nr rfl (Cq.wp.nr rfl (Cq.wp.nr rfl rfl))))))))))
 have g:(yq c false true).Α (if c.kind=12 then(0,c.n)else if c.kind=6 then(c.r,c.r)else if c.kind=7 then((c.b.length:Int),(c.b.length:Int))else if c.kind=8 then((c.b.length:Int),(c.b.length:Int))else if c.kind=9 then(0,0)else if c.kind=13 then(c.n,-1)else(0,-1)):=by refine Cq.wp.nr rfl (Cq.wp.nr rfl (Cq.wp.nr rfl (Cq.wp.yes rfl (zb (λ_=>rfl) λ_=>Cq.wp.yes rfl (zb (λ_=>rfl) λ_=>Cq.wp.yes rfl (ZT (λ_=>Cq.wp.yes rfl rfl) λ_=>?_))))));exact zb (λ_=>rfl) λ_=>Cq.wp.yes rfl (zb (λ_=>rfl) λ_=>Cq.wp.yes rfl (ZT (λ_=>rfl) λ_=>rfl))
 have h:(if c.kind=12 then(0,c.n)else if c.kind=6 then(c.r,c.r)else if c.kind=7 then((c.b.length:Int),(c.b.length:Int))else if c.kind=8 then((c.b.length:Int),(c.b.length:Int))else if c.kind=9 then(0,0)else if c.kind=13 then(c.n,-1)else(0,-1))=(if c.kind=6 then(c.r,c.r)else if c.kind=7\/c.kind=8 then((c.b.length:Int),(c.b.length:Int))else if c.kind=9 then(0,0)else if c.kind=13 then(c.n,-1)else if c.kind=12 then(0,c.n)else(0,-1)):=by
  by_cases a:c.kind=12
  .simp[a]
  by_cases h7:c.kind=7
  .simp[h7]
  simp[a,h7]
 rw[h]at g;unfold mj;by_cases f:q.kind=8
 .refine Cq.wp.yes f ?_;rw[ā ŉ,ą (Or.inl f),Ċ ŉ];exact g
 refine Cq.wp.no f ?_;by_cases d:q.kind=5
 .rw[ą d,ă d,Ċ ŉ];exact i
 rw[ā d,Ċ d];by_cases e:q.kind=6
 .rw[ą (Or.inr e),ă e];exact g
 rw[ā ŉ,Ċ e];exact j
def CG(a b:Int):Int:=if a<b then b else a
def qL(a b:Int):Int:=if 0<=b then(if a<0 then b else if b<a then b else a)else a
theorem Wi{a b:Int}(c:0<=b)(d:a<0):qL a b=b:=by unfold qL;rw[if_pos c,if_pos d]
theorem B2{a b:Int}(c:0<=b)(d:¬a<0)(h2:b<a):qL a b=b:=by unfold qL;rw[if_pos c,if_neg d,if_pos h2]
theorem Wj{a b:Int}(c:0<=b)(d:¬a<0)(h2:¬b<a):qL a b=a:=by unfold qL;rw[if_pos c,if_neg d,if_neg h2]
theorem Wk{a b:Int}(c:¬0<=b):qL a b=a:=by unfold qL;rw[if_neg c]
def jx(t:Ze)(c:Zj):Ze:=⟨t.id,t.k,t.q,t.υ,CG t.low (mj t.q c).1,qL t.high (mj t.q c).2,t.done || qC t.k t.q c⟩
theorem Rr(c:Zj)(t:Ze):(D2 c t).Α ⟨t.id,t.k,t.q,t.υ,CG t.low (mj t.q c).1,qL t.high (mj t.q c).2,t.done⟩:=by
 refine⟨_,ZuI t.q c,?_⟩;by_cases a:0<=(mj t.q c).2
 .by_cases d:t.high<0
  .rw[Wi a d];exact Cq.wp.yes a (Cq.wp.yes d rfl)
  by_cases h2:(mj t.q c).2<t.high
  .rw[B2 a d h2];exact Cq.wp.yes a (Cq.wp.no d (Cq.wp.yes h2 rfl))
  rw[Wj a d h2];exact Cq.wp.yes a (Cq.wp.no d (Cq.wp.no h2 rfl))
 rw[Wk a];exact Cq.wp.no a rfl
theorem ZwX{t:Ze}(d:fa t.q){c:Zj}(a:Ë c):(KP t c).Α (jx t c):=by
 refine⟨_,ZsG d a,?_⟩;unfold jx;cases qC t.k t.q c with
 |true=>rw[abC];exact Cq.wp.yes rfl (Rr c _)
 |false=>rw[abQ];exact Cq.wp.nr rfl (Rr c _)
theorem Q2(b:Int×Int)(t:Ze):(Ef b t).Α ⟨t.id,t.k,t.q,t.υ,CG t.low b.1,qL t.high b.2,t.done⟩:=by
 by_cases a:0<=b.2
 .by_cases c:t.high<0
  .rw[Wi a c];exact Cq.wp.yes a (Cq.wp.yes c rfl)
  by_cases h2:b.2<t.high
  .rw[B2 a c h2];exact Cq.wp.yes a (Cq.wp.no c (Cq.wp.yes h2 rfl))
  rw[Wj a c h2];exact Cq.wp.yes a (Cq.wp.no c (Cq.wp.no h2 rfl))
 rw[Wk a];exact Cq.wp.no a rfl
theorem Zrf{t:Ze}(e:fa t.q){c:Zj}(d:Ë c):(J9 t c).Α (jx t c):=by
 refine⟨_,Ztn t.q c,?_⟩;unfold jx;by_cases a:t.done=true
 .refine Cq.wp.yes a ?_;rw[a,Ŧ];exact Q2 _ _
 refine Cq.wp.no a ⟨_,Zra e d,?_⟩;rw[show t.done=false by simpa using a,Ľ];exact Q2 _ _
theorem A2(l:Ŀ Zj)(t:Ze):(l.foldl jx t).id=t.id/\(l.foldl jx t).k=t.k/\(l.foldl jx t).q=t.q/\(l.foldl jx t).υ=t.υ:=by
 induction l generalizing t with
 |nil=>exact⟨rfl,rfl,rfl,rfl⟩
 |cons c l e=>
  obtain⟨a,h2,h3,d⟩:=e (jx t c);exact⟨a,h2,h3,d⟩
def lb(id Λ:Int)(t:Ze):Ze:=if t.id=id then⟨t.id,t.k,t.q,if t.υ<Λ+1 then Λ+1 else t.υ,t.low,t.high,t.done⟩else t
def stepT(k:Zb)(id:Int)(l:Ŀ Zj)(Λ:Int)(t:Ze):Ze:=lb id Λ (if þ t.k=þ k then l.foldl jx t else t)
def hQ(B:Zd)(id:Int)(l:Ŀ Zj)(Λ:Int):Zd×Int:=
 if(fv B.t id).2=false then(⟨[],0⟩,380)
 else if Λ<0\/12<Λ then(⟨[],0⟩,1)
 else if l.all (ä (fv B.t id).1.k)=true then(⟨B.t.map (stepT (fv B.t id).1.k id l Λ),B.next⟩,0)
 else(⟨[],0⟩,1)
end Go.EL

namespace Go.EL
open Go.IntKind (i8 i16 i32 i64 u8 u16 u32 u64)
open Go Go.RowKit
theorem ZsH{l:Ŀ Ze}(a:l.length<=1000):(Z3 l).Α l:=
 ⟨λe=>by subst e;rfl,by rw[ļ];simp only[small];omega,ļ l⟩
theorem SG{l:Ŀ Ze}{id:Int}(h:(fv l id).2=true):(fv l id).1∈l/\(fv l id).1.id=id:=by
 unfold fv at h⊢;cases a:l.find? λt=>decide (t.id=id)with
 |none=>rw[a]at h;cases h
 |some t=>exact⟨ei a,by simpa using aak a⟩
theorem Up{α:Type}{E:α}(l:Ŀ Zj)(q:l.length<=1000)(f:Zj->Bool)(X:Zd){step:Int×Zd->Cq ((Int×Zd)⊕(α⊕Zd))}
  (h:∀k (g:k<l.length),(step ((k:Int),X)).wp λo=>o=if f l[k]=true then .inl (i64.wrap ((k:Int)+1),X)else .inr (.inl E))
  (a:(step ((l.length:Int),X)).wp λo=>o=.inr (.inr X)):(Cq.loop step (0,X)).wp λo=>o=if l.all f=true then .inr X else .inl E:=by
 refine Cq.Zn l.length (λk s=>s=((k:Int),X)/\∀i (hi:i<l.length),i<k->f l[i]=true) (λk s g m=>?_) (λs m=>?_) ⟨rfl,λi _ hi=>absurd hi (ı _)⟩
 .obtain⟨rfl,d⟩:=m
  refine(step _).mono (λo j=>?_) (h k g)
  subst j
  by_cases c:f l[k]=true
  .rw[ą c]
   refine⟨by rw[ψ ŉ],λi hi n=>?_⟩
   by_cases e:i=k
   .subst e;exact c
   exact d i hi ŉ
  rw[ā c]
  show _=_
  rw[ā λe=>c (Ć.1 e _ (Ă g))]
 obtain⟨rfl,d⟩:=m
 refine(step _).mono (λo j=>?_) a
 subst j
 show _=_
 rw[ą (Ć.2 λx p=>by obtain⟨i,hi,rfl⟩:=du p;exact d i hi hi)]
theorem Zx6{l:Ŀ Zj}(g:l.length<=1000)(e:∀c∈l,Ë c){t:Ze}(f:fa t.q):(Qa l (0,t)).Α (l.foldl jx t):=by
 refine Cq.Zn l.length (λk s=>s=((k:Int),(l.take k).foldl jx t)) (λk s a d=>?_) (λs d=>?_) rfl
 .subst d;refine Cq.wp.yes ŉ ⟨_,Μ a,_,ZwX (by rw[(A2 _ t).2.2.1];exact f) (e _ (Ă a)),?_⟩;show _=_;rw[ψ ŉ,ċ a,abi];rfl
 subst d;refine Cq.wp.no ŉ ?_;rw[Ĥ];exact rfl
theorem Zv2{l:Ŀ Zj}(j:l.length<=1000)(g:∀c∈l,Ë c){t own:Ze}(i:fa t.q)(a:jK t.k)(h:jK own.k)(b:Bool):(Qe l (own,b) (0,t)).Α (if þ t.k=þ own.k then l.foldl jx t else t):=by
 have d:=KU a h;by_cases e:þ t.k=þ own.k
 .rw[ą e];rw[ă e]at d;refine Cq.Zn l.length (λk s=>s=((k:Int),(l.take k).foldl jx t)) (λk s a ot=>?_) (λs ot=>?_) rfl
  .subst ot;refine Cq.wp.yes ŉ ⟨true,by rw[(A2 _ t).2.1];exact d,Cq.wp.yes rfl ⟨_,Μ a,_,Zrf (by rw[(A2 _ t).2.2.1];exact i) (g _ (Ă a)),?_⟩⟩;show _=_;rw[ψ ŉ,ċ a,abi];rfl
  subst ot;refine Cq.wp.no ŉ ?_;rw[Ĥ];exact rfl
 rw[ā e];rw[Ċ e]at d;refine Cq.Zs ?_;by_cases f:(0:Int)<(l.length:Int)
 .exact Cq.wp.yes f ⟨false,d,Cq.wp.nr rfl rfl⟩
 exact Cq.wp.no f rfl
theorem TG{id Λ:Int}(f:0<=Λ/\Λ<=12){T:Ŀ Ze}{k:Nat}(a:k<T.length)(d:T.length<=1000)(n:Int)(t:Ze):(yv id Λ T (k:Int) n t).wp λo=>o=.inl (T.set k (lb id Λ t),((k+1:Nat):Int),n):=by
 unfold lb;have c:i64.wrap (Λ+1)=Λ+1:=wrap64 ŉ;by_cases e:t.id=id
 .rw[ą e];refine Cq.wp.yes e ⟨_,Μ a,?_⟩;show _=_;rw[ψ ŉ,c,Ē]
 rw[ā e];refine Cq.wp.no e ⟨_,Μ a,?_⟩;show _=_;rw[ψ ŉ,Ē]
theorem Zv0{id Λ:Int}(f:0<=Λ/\Λ<=12){T:Ŀ Ze}{k:Nat}(d:k<1000)(c:T.length<=1000)(n:Int)(t:Ze):(JK id Λ (k:Int) T n t).wp λo=>o=.inl (((k+1:Nat):Int),T++[lb id Λ t],n):=by
 unfold lb;have a:i64.wrap (Λ+1)=Λ+1:=wrap64 ŉ;have k3:∀u,(Eu (k:Int) T n u).wp λo=>o=.inl (((k+1:Nat):Int),T++[u],n):=λu=>by refine⟨by rw[Ā];simp only[small,ė];omega,?_⟩;show _=_;rw[ψ ŉ]
 by_cases e:t.id=id
 .rw[ą e];refine Cq.wp.yes e ?_;rw[a];exact k3 _
 rw[ā e];exact Cq.wp.no e (k3 _)
theorem ZzV{f:Ze->Ze}{T:Ŀ Ze}{k:Nat}(a:k<T.length):((T.take k).map f++T.drop k).length=T.length/\((T.take k).map f++T.drop k)[k]?=some T[k]/\((T.take k).map f++T.drop k).set k (f T[k])=(T.take (k+1)).map f++T.drop (k+1):=by
 have c:((T.take k).map f).length=k:=by rw[ć,č];omega
 refine⟨by rw[Ā,c,ľ];omega,?_,?_⟩
 .rw[ģ ŉ,c,aaW,ŧ];exact Ą a
 rw[List.set_append,ā ŉ,c,aaW,ĭ a,aa6,ċ a,Ī,Đ];rfl
section
variable {B:Zd}{id:Int}{l:Ŀ Zj}{Λ:Int}
theorem xT(h:(fv B.t id).2=false):hQ B id l Λ=(⟨[],0⟩,380):=by unfold hQ;rw[if_pos h]
theorem sy(h:(fv B.t id).2=true)(a:Λ<0\/12<Λ):hQ B id l Λ=(⟨[],0⟩,1):=by unfold hQ;rw[if_neg (by rw[h];decide),if_pos a]
theorem CI(h:(fv B.t id).2=true)(a:¬(Λ<0\/12<Λ))(h2:l.all (ä (fv B.t id).1.k)=false):hQ B id l Λ=(⟨[],0⟩,1):=by unfold hQ;rw[if_neg (by rw[h];decide),if_neg a,if_neg (by rw[h2];decide)]
theorem uK(h:(fv B.t id).2=true)(a:¬(Λ<0\/12<Λ))(h2:l.all (ä (fv B.t id).1.k)=true):hQ B id l Λ=(⟨B.t.map (stepT (fv B.t id).1.k id l Λ),B.next⟩,0):=by unfold hQ;rw[if_neg (by rw[h];decide),if_neg a,if_pos h2]
end
theorem AJ{B:Zd}(h:æ B)(F:B.t.length<=1000)(id:Int){l:Ŀ Zj}(y:l.length<=1000)(x:∀c∈l,Ë c)(Λ:Int):(wY B id l Λ).Α (hQ B id l Λ):=by
 refine⟨_,(yO F id).1,?_⟩;cases d:(fv B.t id).2 with
 |false=>rw[xT d];exact Cq.wp.yes (by rw[d];rfl) rfl
 |true=>
  refine Cq.wp.no (by rw[d];decide) ?_;obtain⟨H,G⟩:=SG d;have m:=(h.can _ H).ck.1.ok;by_cases q:Λ<0
  .rw[sy d (Or.inl q)];exact Cq.wp.yes q rfl
  by_cases h2:12<Λ
  .rw[sy d (Or.inr h2)];exact Cq.wp.no q (Cq.wp.yes h2 rfl)
  have j:¬(Λ<0\/12<Λ):=ŉ;have J:=CI (l:=l) d j;have K:=uK (l:=l) d j;generalize A:fv B.t id=own at *;refine Cq.wp.no q (Cq.wp.no h2 ?_);show(Cq.next _ _).wp _;have key:=Up (E:=((⟨[],0⟩:Zd),(1:Int))) l y (ä own.1.k) ⟨[],0⟩ (step:=λD=>match D with|(a,i)=>if a<(l.length:Int)then(Cq.Θ l a λL=>Cq.bind (Ez own.1.k L) λu=>if(!u)=true then(Cq.ret (.inr (.inl ((Zd.mk [] 0),1))))else(Cq.ret (.inl (i64.wrap (a+1),i))))else(Cq.ret (.inr (.inr i)))) (λk g=>by
   refine Cq.wp.yes ŉ ⟨_,Μ g,_,Zn2 m (x _ (Ă g)),?_⟩;cases ä own.1.k l[k]with
   |false=>exact Cq.wp.yes rfl rfl
   |true=>exact Cq.wp.nr rfl rfl) (Cq.wp.no ŉ rfl)
  refine Cq.eM key ?_;cases hr:l.all (ä own.1.k)with
  |false=>rw[J hr];exact rfl
  |true=>
   rw[K hr];refine⟨_,y4 m,_,ZsH ŉ,?_⟩;show(Cq.next _ _).wp _;refine Cq.Zn B.t.length (λk s=>s=((B.t.take k).map (stepT own.1.k id l Λ)++B.t.drop k,(k:Int),B.next)) (λk s g t=>?_) (λs t=>?_) (by show _=_;simp)
   .subst t;obtain⟨C,I,n⟩:=ZzV (f:=stepT own.1.k id l Λ) g;have v:=h.can _ (Ă g);refine Cq.wp.yes ŉ ⟨B.t[k],⟨ŉ,by rw[Ē];exact I⟩,_,y4 v.ck.1.ok,?_⟩;have e:stepT own.1.k id l Λ B.t[k]=lb id Λ (if þ B.t[k].k=þ own.1.k then l.foldl jx B.t[k]else B.t[k]):=rfl;rw[e]at n;by_cases p:þ B.t[k].k=þ own.1.k
    .rw[ą p]at n;refine Cq.wp.yes p (Cq.eM (Zx6 y x v.cq) ?_);refine Cq.mono (yv _ _ _ _ _ _) (λo r=>?_) (TG ŉ (by rw[C];exact g) ŉ B.next _);subst r;show _=_;rw[n]
    rw[ā p]at n;refine Cq.wp.no p ?_;refine Cq.mono (yv _ _ _ _ _ _) (λo r=>?_) (TG ŉ (by rw[C];exact g) ŉ B.next _);subst r;show _=_;rw[n]
   subst t;refine Cq.wp.no ŉ ?_;rw[Ĥ,aag,ę];exact rfl
theorem ZuZ{B:Zd}(h:æ B)(v:B.t.length<=1000)(id:Int){l:Ŀ Zj}(r:l.length<=1000)(q:∀c∈l,Ë c)(Λ:Int):(Lb B id l Λ).Α (hQ B id l Λ):=by
 refine⟨_,(yO v id).2,?_⟩;cases d:(fv B.t id).2 with
 |false=>rw[xT d];exact Cq.wp.yes (by rw[d];rfl) rfl
 |true=>
  refine Cq.wp.no (by rw[d];decide) ?_;obtain⟨y,x⟩:=SG d;have i:=(h.can _ y).ck.1.ok;by_cases j:Λ<0
  .rw[sy d (Or.inl j)];exact Cq.wp.yes j rfl
  by_cases h2:12<Λ
  .rw[sy d (Or.inr h2)];exact Cq.wp.no j (Cq.wp.yes h2 rfl)
  have g:¬(Λ<0\/12<Λ):=ŉ;have C:=CI (l:=l) d g;have D:=uK (l:=l) d g;generalize t:fv B.t id=own at *;refine Cq.wp.no j (Cq.wp.no h2 ?_);show(Cq.next _ _).wp _;have key:=Up (E:=((⟨[],0⟩:Zd),(1:Int))) l r (ä own.1.k) ⟨[],0⟩ (step:=λu=>match u with|(a,f)=>if a<(l.length:Int)then(Cq.Θ l a λF=>Cq.bind (Fv own.1.k F) λn=>if(!n)=true then(Cq.ret (.inr (.inl ((Zd.mk [] 0),1))))else(Cq.ret (.inl (i64.wrap (a+1),f))))else(Cq.ret (.inr (.inr f)))) (λk e=>by
   refine Cq.wp.yes ŉ ⟨_,Μ e,_,Zu1 i (q _ (Ă e)),?_⟩;cases ä own.1.k l[k]with
   |false=>exact Cq.wp.yes rfl rfl
   |true=>exact Cq.wp.nr rfl rfl) (Cq.wp.no ŉ rfl)
  refine Cq.eM key ?_;cases hr:l.all (ä own.1.k)with
  |false=>rw[C hr];exact rfl
  |true=>
   rw[D hr];show(Cq.next _ _).wp _;refine Cq.Zn B.t.length (λk s=>s=((k:Int),(B.t.take k).map (stepT own.1.k id l Λ),B.next)) (λk s e m=>?_) (λs m=>?_) (by show _=_;simp)
   .subst m;have p:=h.can _ (Ă e);refine Cq.wp.yes ŉ ⟨_,Μ e,Cq.eM (Zv2 (own:=own.1) r q p.cq p.ck.1.ok.qV i.qV own.2) ?_⟩;refine Cq.mono (JK _ _ _ _ _ _) (λo A=>?_) (Zv0 ŉ ŉ (by rw[ć,č];omega) B.next _);subst A;show _=_;rw[ċ e,Ī];rfl
   subst m;refine Cq.wp.no ŉ ?_;rw[Ĥ];exact rfl
end Go.EL

namespace Go.EL
open Go.IntKind (i8 i16 i32 i64 u8 u16 u32 u64)
open Go Go.RowKit
theorem ZvT{l:Ŀ Zu}(h:∀y∈l,iZ y):∃m:Ŀ Ù,(Lw l 2 2 3 6).Α m/\m.length<=6/\∀p∈m,ω p:=by
 refine⟨(l.take 6).map λy=>iD y 2 2 3,?_,by rw[ć,č];omega,λp hp=>?_⟩
 .have a:(QC ((l.take (min l.length 6)).map λy=>iD y 2 2 3)).Α ((l.take 6).map λy=>iD y 2 2 3):=by
   have e:l.take (min l.length 6)=l.take 6:=by
    by_cases f:l.length<=6
    .rw[Ž f,ě (Ĉ _),ě f]
    rw[Nat.min_eq_right ŉ]
   rw[e];exact rfl
  refine Cq.Zn (min l.length 6) (λk s=>s=((l.take k).map (λy=>iD y 2 2 3),(k:Int))) (λk s j g=>?_) (λs g=>?_) rfl
  .subst g;have c:k<l.length:=ŉ;refine Cq.wp.yes ŉ (Cq.wp.yes ŉ ⟨_,Μ c,_,Lt (h _ (Ă c)) (n:=2) ĳ ĳ ĳ (k:=3) ĳ,?_,?_⟩)
   .simp only[Ā,ć,č,ė,small];omega
   show _=_;rw[ψ ŉ,ċ c,Ī];rfl
  subst g;by_cases f:l.length<=6
  .exact Cq.wp.no ŉ a
  exact Cq.wp.yes ŉ (Cq.wp.no ŉ a)
 obtain⟨y,i,rfl⟩:=Ğ.1 hp;exact(Ls (h y (ś i)) (n:=2) ĳ (d:=2) ĳ ĳ (k:=3) ĳ).1
def iq(l:Ŀ Ù)(k:Nat):Ù:=if h:0<l.length then l[k % l.length]'(x8 _ h)else[]
theorem TV{l:Ŀ Ù}(h:∀p∈l,ω p)(k:Nat):ω (iq l k):=by
 unfold iq;split
 .exact h _ (Ă _)
 exact ω.of ĳ
theorem Ub(a b:Nat):Int.tmod (a:Int) (b:Int)=((a % b:Nat):Int):=by rw[Ŕ ŉ];rfl
theorem TW{l:Ŀ Ù}(p:l.length<=6)(k n:Nat)(m:k<=2)(q:n<=3):(xl l (k:Int) (n:Int)).Α ((List.range n).map λi=>iq l (k+i)):=by
 show(Cq.next _ _).wp _;refine Cq.Zn n (λj s=>s=((List.range j).map (λi=>iq l (k+i)),(j:Int))) (λj s h d=>?_) (λs d=>?_) rfl
 .subst d;have a:∀x:Ù,((List.range j).map (λi=>iq l (k+i))++[x]).length<=small:=λx=>by simp only[Ā,ć,Ż,ė,small];omega
  have next:∀x:Ù,x=iq l (k+j)->((List.range j).map (λi=>iq l (k+i))++[x],i64.wrap ((j:Int)+1))=((List.range (j+1)).map (λi=>iq l (k+i)),((j+1:Nat):Int)):=λx f=>by rw[ψ ŉ,aal,Ī,f];rfl
  refine Cq.wp.yes ŉ ?_;by_cases g:l.length=0
  .refine Cq.wp.yes ŉ ⟨a _,next _ ?_⟩;unfold iq;rw[dif_neg ŉ]
  have c:(k+j) % l.length<l.length:=x8 _ ŉ;have e:Int.tmod (i64.wrap ((k:Int)+(j:Int))) (l.length:Int)=(((k+j) % l.length:Nat):Int):=by rw[wrap64 ŉ,<-Ub];congr 1
  refine Cq.wp.no ŉ ⟨ŉ,_,by rw[e];exact Μ c,a _,next _ ?_⟩;unfold iq;rw[ŷ ŉ]
 subst d;exact Cq.wp.no ŉ rfl
theorem Zym{l:Ŀ Ù}(h:∀p∈l,ω p)(k n:Nat)(a:n<=3):rF ((List.range n).map λi=>iq l (k+i)):=
 ⟨by rw[ć,Ż];exact a,λp hp=>by obtain⟨i,_,rfl⟩:=Ğ.1 hp;exact TV h _⟩
def eW(v:Ŀ Int)(k:Nat):Int:=(v[k % v.length]?).getD 0
theorem yW{v:Ŀ Int}(h:∀x∈v,gM x)(k:Nat):gM (eW v k):=by
 unfold eW;cases e:v[k % v.length]? with
 |none=>show gM 0;decide
 |some x=>exact h x (ń e)
theorem vv{v:Ŀ Int}(h:∀x∈v,gM x)(k:Nat):(tU v (k:Int)).Α (eW v k):=by
 by_cases c:v.length=0
 .refine Cq.wp.yes ŉ ?_;show _=_;unfold eW;rw[ł ŉ];rfl
 have a:k % v.length<v.length:=x8 _ ŉ;refine Cq.wp.no ŉ ⟨ŉ,_,by rw[Ub];exact Μ a,?_⟩;show _=_;have:=h _ (Ă a);unfold eW;rw[Ą a,wrap64 ŉ];rfl
def n7(y:Int):Int:=i64.wrap (BitVec.ofInt i64.bits y &&& BitVec.ofInt i64.bits 7).toNat
def n3(y:Int):Int:=i64.wrap (BitVec.ofInt i64.bits (n7 y) &&& BitVec.ofInt i64.bits 3).toNat
def n15(y:Int):Int:=i64.wrap (BitVec.ofInt i64.bits y &&& BitVec.ofInt i64.bits 15).toNat
def wo(y:Int):Int:=i64.wrap ((Int.tmod (i64.wrap (BitVec.ofInt i64.bits y &&& BitVec.ofInt i64.bits 127).toNat) 3)-1)
structure rJ (y:Int):Prop where
 h7:0<=n7 y/\n7 y<=7
 h3:0<=n3 y/\n3 y<=3
 oL:0<=n15 y/\n15 y<=15
 sg:-1<=wo y/\wo y<=1
 w8:i8.wrap (n7 y)=n7 y/\i8.wrap y=y
 dm:i64.wrap (n3 y-1)=n3 y-1
 pt:0<=i64.wrap (Int.tdiv (n7 y) 2)/\i64.wrap (Int.tdiv (n7 y) 2)<=i64.wrap (n7 y-i64.wrap (Int.tdiv (n7 y) 3))/\i64.wrap (n7 y-i64.wrap (Int.tdiv (n7 y) 3))<=n7 y
def sW(y:Int):Bool:=decide (0<=n7 y/\n7 y<=7)&&decide (0<=n3 y/\n3 y<=3)&&decide (0<=n15 y/\n15 y<=15)&&decide (-1<=wo y/\wo y<=1)&&decide (i8.wrap (n7 y)=n7 y/\i8.wrap y=y)&&decide (i64.wrap (n3 y-1)=n3 y-1)&&decide (0<=i64.wrap (Int.tdiv (n7 y) 2)/\i64.wrap (Int.tdiv (n7 y) 2)<=i64.wrap (n7 y-i64.wrap (Int.tdiv (n7 y) 3))/\i64.wrap (n7 y-i64.wrap (Int.tdiv (n7 y) 3))<=n7 y)
theorem Zxq:á (-128) 127 sW=true:=by decide +kernel
theorem AZ{y:Int}(h:gM y):rJ y:=by have:=Zq Zxq h.1 h.2;unfold sW at this;simp only[ĉ,Ę]at this;obtain⟨⟨⟨⟨⟨⟨a,b⟩,c⟩,d⟩,e⟩,f⟩,g⟩:=this;exact⟨a,b,c,d,e,f,g⟩
def ml(v:Ŀ Int)(k:Nat):Ŀ Zl:=nc (eW v k) (eW v (k+1)) (n7 (eW v k))
theorem LG{v:Ŀ Int}(h:∀x∈v,gM x)(k:Nat)(p:k<=3):(Mg v (k:Int)).Α (ml v k)/\nM (ml v k):=by
 have p0:=yW h k;have p1:=yW h (k+1);have a:=AZ p0;have j:=AZ p1;refine⟨?_,_,_,_,p0,p1,a.h7,rfl⟩;have l:nJ 0=(0,1):=by decide +kernel
 have m:oM 0 0=(0,1):=by decide +kernel
 have w1:(ZX 0).Α (Ν (nJ 0)):=by rw[l];exact(xE (n:=0) ĳ).1
 have w2:(ZX 0).Α (Ν (oM 0 0)):=by rw[m];exact(xE (n:=0) ĳ).1
 have first:(Rz (0,List.replicate 8 (Zl.mk (Zf.mk (Zg.mk false []) (Zg.mk false [])) (Zf.mk (Zg.mk false []) (Zg.mk false []))))).Α (List.replicate 8 (l8 0 0)):=by
  iterate 8
   refine Cq.Zs (Cq.wp.yes ĳ ⟨_,w1,_,w2,_,⟨ĳ,rfl⟩,?_⟩)
   show(Cq.loop _ _).wp _
  exact Cq.Zs (Cq.wp.no ĳ rfl)
 refine Cq.eM first ?_
 show(Cq.next _ _).wp _;have d:=ZwN a.h7;have e:i64.wrap ((k:Int)+0)=(k:Int):=by rw[wrap64 ŉ];omega
 have f:∀i:Nat,i<=1->i64.wrap ((k:Int)+(i:Int))=((k+i:Nat):Int):=λi hi=>by rw[wrap64 ŉ];rfl
 have c:∀y,rJ y->i8.wrap (i64.wrap (BitVec.ofInt i64.bits y &&& BitVec.ofInt i64.bits 7).toNat)=n7 y:=λy s=>s.w8.1;have g:(Ry v (k:Int) (0,List.replicate 8 (l8 0 0))).Α (ml v k):=by refine Cq.Zs (Cq.wp.yes ĳ ⟨_,by rw[e];exact vv h k,_,by rw[a.w8.2];exact UT p0,_,vv h k,_,by rw[c _ a];exact d,_,UP p0 a.h7,_,⟨ĳ,rfl⟩,?_⟩);show(Cq.loop _ _).wp _;refine Cq.Zs (Cq.wp.yes ĳ ⟨_,by have:=f 1 ĳ;rw[show((1:Nat):Int)=i64.wrap (0+1)from rfl]at this;rw[this];exact vv h (k+1),_,by rw[j.w8.2];exact UT p1,_,vv h k,_,by rw[c _ a];exact d,_,UP p1 a.h7,_,⟨ĳ,rfl⟩,?_⟩);show(Cq.loop _ _).wp _;exact Cq.Zs (Cq.wp.no ĳ rfl)
 exact g
end Go.EL

namespace Go.EL
open Go.IntKind (i8 i16 i32 i64 u8 u16 u32 u64)
open Go Go.RowKit
structure jG (x:ZM):Prop where
 kind:0<=x.kind/\x.kind<=255
 l:∀y∈x.l,iZ y
 v:∀z∈x.v,gM z
theorem RG{v:Ŀ Int}(h:∀z∈v,gM z){N:Nat}(a:N<=3):kl ((List.range N).map (ml v)):=
 ⟨by rw[ć,Ż];exact a,λb c=>by
  obtain⟨i,hi,rfl⟩:=Ğ.1 c;exact(LG h i (by have:=ĺ.1 hi;omega)).2⟩
theorem ZvM{v:Ŀ Int}(h:∀z∈v,gM z){N:Nat}(a:N<=3):lr ((List.range N).map λi=>wo (eW v i)):=
 ⟨by rw[ć,Ż];exact a,λb c=>by
  obtain⟨i,_,rfl⟩:=Ğ.1 c;exact(AZ (yW h i)).sg⟩
theorem Zw0{x:ZM}(c:jG x)(p:Ù){y:Int}{N:Nat}(f:n3 y=(N:Int))(d:N<=3):(I5 x p y (0,7,[],0,0,0,[],[],[],[])).Α (7,[],0,0,0,[],[],[],(List.range N).map (ml x.v)):=by
 refine Cq.Zn N (λk s=>s=((k:Int),7,[],0,0,0,[],[],[],(List.range k).map (ml x.v))) (λk s e a=>?_) (λs a=>?_) rfl
 .subst a;refine Cq.wp.yes (show(k:Int)<n3 y by omega) ⟨_,(LG c.v k ŉ).1,?_,Cq.wp.no ĳ ?_⟩
  .simp only[Ā,ć,Ż,ė,small];omega
  show _=_;rw[ψ ŉ,aal,Ī];rfl
 subst a;exact Cq.wp.no (show ¬(N:Int)<n3 y by omega) rfl
theorem Zw1{x:ZM}(c:jG x)(p:Ù){y:Int}{N:Nat}(f:n3 y=(N:Int))(d:N<=3):(I5 x p y (0,8,[],0,0,0,[],[],[],[])).Α (8,if N=0 then[]else p,0,0,0,[],[],(List.range N).map (λi=>wo (eW x.v i)),(List.range N).map (ml x.v)):=by
 refine Cq.Zn N (λk s=>s=((k:Int),8,if k=0 then[]else p,0,0,0,[],[],(List.range k).map (λi=>wo (eW x.v i)),(List.range k).map (ml x.v))) (λk s e a=>?_) (λs a=>?_) rfl
 .subst a;refine Cq.wp.yes (show(k:Int)<n3 y by omega) ⟨_,(LG c.v k ŉ).1,?_,Cq.wp.yes rfl ⟨_,vv c.v k,?_,?_⟩⟩
  .simp only[Ā,ć,Ż,ė,small];omega
  .simp only[Ā,ć,Ż,ė,small];omega
  show _=_;rw[ψ ŉ,aal,Ī,Ī,ā (Nat.succ_ne_zero k)];rfl
 subst a;exact Cq.wp.no (show ¬(N:Int)<n3 y by omega) rfl
theorem Zph{x:ZM}(d:jG x):∃c,(D' x).Α c/\Ë c:=by
 obtain⟨m,B,t,v⟩:=ZvT d.l;have s:=yW d.v 1;have f:=AZ s;have k:(tU x.v 1).Α (eW x.v 1):=vv d.v 1;generalize eW x.v 1=y at s f k;have j:(xl m 2 1).Α [iq m 2]:=TW t 2 1 ĳ ĳ;have hp:=TV v 2;generalize iq m 2=p at j hp;obtain⟨N,n⟩:∃N:Nat,n3 y=(N:Int):=⟨(n3 y).toNat,by have:=f.h3;omega⟩;have a:N<=3:=by have:=f.h3;omega
 have g:(xl m 1 (n3 y)).Α ((List.range N).map λi=>iq m (1+i)):=by rw[n];exact TW t 1 N ĳ a
 have l:=Zym v 1 N a;have E:1<=i64.wrap (1+(i64.wrap (Int.tmod x.kind 13)))/\i64.wrap (1+(i64.wrap (Int.tmod x.kind 13)))<=13:=by have:=d.kind;have e:Int.tmod x.kind 13=x.kind % 13:=Ŕ this.1;rw[e,wrap64 (x:=x.kind % 13) ŉ,wrap64 ŉ];omega
 have start:∀c,(if(i64.wrap (1+(i64.wrap (Int.tmod x.kind 13))))=1 then(wS x m p y (decide ((i64.wrap (1+(i64.wrap (Int.tmod x.kind 13))))=1)))else(if(i64.wrap (1+(i64.wrap (Int.tmod x.kind 13))))=2 then(wS x m p y (decide ((i64.wrap (1+(i64.wrap (Int.tmod x.kind 13))))=2)))else(wS x m p y (decide ((i64.wrap (1+(i64.wrap (Int.tmod x.kind 13))))=10))))).Α c->(D' x).Α c:=
  λc h=>⟨m,B,_,j,p,⟨ĳ,rfl⟩,y,k,h⟩
 rcases (by omega:i64.wrap (1+(i64.wrap (Int.tmod x.kind 13)))=1\/i64.wrap (1+(i64.wrap (Int.tmod x.kind 13)))=2\/i64.wrap (1+(i64.wrap (Int.tmod x.kind 13)))=3\/i64.wrap (1+(i64.wrap (Int.tmod x.kind 13)))=4\/i64.wrap (1+(i64.wrap (Int.tmod x.kind 13)))=5\/i64.wrap (1+(i64.wrap (Int.tmod x.kind 13)))=6\/i64.wrap (1+(i64.wrap (Int.tmod x.kind 13)))=7\/i64.wrap (1+(i64.wrap (Int.tmod x.kind 13)))=8\/i64.wrap (1+(i64.wrap (Int.tmod x.kind 13)))=9\/i64.wrap (1+(i64.wrap (Int.tmod x.kind 13)))=10\/i64.wrap (1+(i64.wrap (Int.tmod x.kind 13)))=11\/i64.wrap (1+(i64.wrap (Int.tmod x.kind 13)))=12\/i64.wrap (1+(i64.wrap (Int.tmod x.kind 13)))=13)with e|e|e|e|e|e|e|e|e|e|e|e|e
 .exact⟨⟨1,p,0,0,0,[],[],[],[]⟩,start _ (Cq.wp.yes e (Cq.wp.yes (ă e) (by show _=_;rw[e]))),.hZ 1 p ĳ hp⟩
 .exact⟨⟨2,p,0,0,0,[],[],[],[]⟩,start _ (Cq.wp.no (by rw[e];decide) (Cq.wp.yes e (Cq.wp.yes (ă e) (by show _=_;rw[e])))),.hZ 2 p ĳ hp⟩
 .exact⟨⟨3,[],0,0,0,[],[],[],[]⟩,start _ (Cq.wp.no (by rw[e];decide) (Cq.wp.no (by rw[e];decide) (Cq.wp.no (by rw[e];decide) (Cq.wp.no (by rw[e];decide) (Cq.wp.no (by rw[e];decide) (Cq.wp.no (by rw[e];decide) (Cq.wp.no (by rw[e];decide) (Cq.wp.no (by rw[e];decide) (Cq.wp.no (by rw[e];decide) (Cq.wp.no (by rw[e];decide) (Cq.wp.no (by rw[e];decide) ((by show _=_;rw[e]))))))))))))),.nil 3 ĳ⟩
 .have h2:=yW d.v 2;have C:(xj (u8.wrap (eW x.v 2))).Α (lV (u8.wrap (eW x.v 2)).toNat):=by
   obtain⟨u,r⟩:∃u:Nat,u8.wrap (eW x.v 2)=(u:Int):=⟨((eW x.v 2) % 256).toNat,by show(eW x.v 2) % 256=_;omega⟩;have D:(u:Int)<=255:=by rw[<-r];show(eW x.v 2) % 256<=255;omega
   rw[r];exact TC ŉ
  exact⟨⟨4,[],0,0,0,_,_,[],[]⟩,start _ (Cq.wp.no (by rw[e];decide) (Cq.wp.no (by rw[e];decide) (Cq.wp.no (by rw[e];decide) (Cq.wp.yes e ⟨_,vv d.v 2,_,C,_,g,(by show _=_;rw[e])⟩)))),.GQ _ _ T7 l⟩
 .have A:=(AZ (yW d.v 3)).oL;exact⟨⟨5,[],n15 (eW x.v 3),n3 y-1,0,[],[],[],[]⟩,start _ (Cq.wp.no (by rw[e];decide) (Cq.wp.no (by rw[e];decide) (Cq.wp.no (by rw[e];decide) (Cq.wp.no (by rw[e];decide) (Cq.wp.yes e ⟨_,vv d.v 3,by show Zj.mk _ _ _ (i64.wrap (n3 y-1)) _ _ _ _ _=_;rw[e,f.dm];rfl⟩))))),.BK _ _ A (by have:=f.h3;omega)⟩
 .exact⟨⟨6,[],n7 y,i64.wrap (n7 y-i64.wrap (Int.tdiv (n7 y) 3)),i64.wrap (Int.tdiv (n7 y) 2),[],[],[],[]⟩,start _ (Cq.wp.no (by rw[e];decide) (Cq.wp.no (by rw[e];decide) (Cq.wp.no (by rw[e];decide) (Cq.wp.no (by rw[e];decide) (Cq.wp.no (by rw[e];decide) (Cq.wp.yes e (by show _=_;rw[e];rfl))))))),.HH _ _ _ ⟨f.pt.1,f.pt.2.1,f.pt.2.2,f.h7.2⟩⟩
 .have h7:=Zw0 d p n a;rw[<-e]at h7;exact⟨⟨7,[],0,0,0,[],[],[],(List.range N).map (ml x.v)⟩,start _ (Cq.wp.no (by rw[e];decide) (Cq.wp.no (by rw[e];decide) (Cq.wp.no (by rw[e];decide) (Cq.wp.no (by rw[e];decide) (Cq.wp.no (by rw[e];decide) (Cq.wp.no (by rw[e];decide) (Cq.wp.yes e (Cq.wp.yes (ă e) (Cq.eM h7 (Cq.wp.no (by rw[e];decide) (by show _=_;rw[e]))))))))))),.box _ (RG d.v a)⟩
 .have q:=Zw1 d p n a;rw[<-e]at q;exact⟨⟨8,p,0,0,0,[],[],(List.range N).map (λi=>wo (eW x.v i)),(List.range N).map (ml x.v)⟩,start _ (Cq.wp.no (by rw[e];decide) (Cq.wp.no (by rw[e];decide) (Cq.wp.no (by rw[e];decide) (Cq.wp.no (by rw[e];decide) (Cq.wp.no (by rw[e];decide) (Cq.wp.no (by rw[e];decide) (Cq.wp.no (by rw[e];decide) (Cq.wp.yes (ă e) (Cq.eM q (Cq.wp.yes e (by show _=_;rw[e]))))))))))),.sig _ _ _ hp (ZvM d.v a) (by rw[ć,ć]) (RG d.v a)⟩
 .exact⟨⟨9,[],0,0,0,[],[],[],[]⟩,start _ (Cq.wp.no (by rw[e];decide) (Cq.wp.no (by rw[e];decide) (Cq.wp.no (by rw[e];decide) (Cq.wp.no (by rw[e];decide) (Cq.wp.no (by rw[e];decide) (Cq.wp.no (by rw[e];decide) (Cq.wp.no (by rw[e];decide) (Cq.wp.no (by rw[e];decide) (Cq.wp.no (by rw[e];decide) (Cq.wp.no (by rw[e];decide) (Cq.wp.no (by rw[e];decide) ((by show _=_;rw[e]))))))))))))),.nil 9 ĳ⟩
 .exact⟨⟨10,p,0,0,0,[],[],[],[]⟩,start _ (Cq.wp.no (by rw[e];decide) (Cq.wp.no (by rw[e];decide) (Cq.wp.yes (ă e) (by show _=_;rw[e])))),.hZ 10 p ĳ hp⟩
 .exact⟨⟨11,[],0,0,0,[],_,[],[]⟩,start _ (Cq.wp.no (by rw[e];decide) (Cq.wp.no (by rw[e];decide) (Cq.wp.no (by rw[e];decide) (Cq.wp.no (by rw[e];decide) (Cq.wp.no (by rw[e];decide) (Cq.wp.no (by rw[e];decide) (Cq.wp.no (by rw[e];decide) (Cq.wp.no (by rw[e];decide) (Cq.wp.yes e ⟨_,g,(by show _=_;rw[e])⟩))))))))),.uX _ l⟩
 .exact⟨⟨12,[],n7 y,0,0,[],[],[],[]⟩,start _ (Cq.wp.no (by rw[e];decide) (Cq.wp.no (by rw[e];decide) (Cq.wp.no (by rw[e];decide) (Cq.wp.no (by rw[e];decide) (Cq.wp.no (by rw[e];decide) (Cq.wp.no (by rw[e];decide) (Cq.wp.no (by rw[e];decide) (Cq.wp.no (by rw[e];decide) (Cq.wp.no (by rw[e];decide) (Cq.wp.yes e (Cq.wp.yes e (by show _=_;rw[e];rfl)))))))))))),.zy 12 _ ĳ f.h7⟩
 exact⟨⟨13,[],n7 y,0,0,[],[],[],[]⟩,start _ (Cq.wp.no (by rw[e];decide) (Cq.wp.no (by rw[e];decide) (Cq.wp.no (by rw[e];decide) (Cq.wp.no (by rw[e];decide) (Cq.wp.no (by rw[e];decide) (Cq.wp.no (by rw[e];decide) (Cq.wp.no (by rw[e];decide) (Cq.wp.no (by rw[e];decide) (Cq.wp.no (by rw[e];decide) (Cq.wp.no (by rw[e];decide) (Cq.wp.yes e (by show _=_;rw[e];rfl)))))))))))),.zy 13 _ ĳ f.h7⟩
theorem ZuJ{x:Zt}(s:∀y∈x.l,jG y):∃l,(AE x).Α l/\l.length<=4/\∀c∈l,Ë c:=by
 have key:∀(m i:Nat),m+i=min x.l.length 4->∀l:Ŀ Zj,l.length=i->(∀c∈l,Ë c)->∃r,(P1 x (l,(i:Int))).Α r/\r.length<=4/\∀c∈r,Ë c:=by
  intro m;induction m with
  |zero=>
   intro i hi l p h2;refine⟨l,Cq.Zs ?_,ŉ,h2⟩;by_cases h:i<x.l.length
   .exact Cq.wp.yes ŉ (Cq.wp.no ŉ rfl)
   exact Cq.wp.no ŉ rfl
  |succ m t=>
   intro i hi l p h2;have e:i<x.l.length:=ŉ;obtain⟨c,k,n⟩:=Zph (s _ (Ă e));obtain⟨r,f,g,j⟩:=t (i+1) ŉ (l++[c]) (by rw[Ā];simp;omega) (λd a=>by
    rcases Ĩ.1 a with a|a
    .exact h2 d a
    rw[Ĕ.1 a];exact n)
   refine⟨r,Cq.Zs (Cq.wp.yes ŉ (Cq.wp.yes ŉ ⟨_,Μ e,c,k,?_,?_⟩)),g,j⟩
   .simp only[Ā,ė,small];omega
   show(Cq.loop _ _).wp _;rw[ψ ŉ];exact f
 obtain⟨r,f,g,j⟩:=key (min x.l.length 4) 0 ŉ [] rfl (λc q=>absurd q ĝ);exact⟨r,Cq.eM f rfl,g,j⟩
end Go.EL

namespace Go.EL
open Go.IntKind (i8 i16 i32 i64 u8 u16 u32 u64)
open Go Go.RowKit
theorem æ.map{B:Zd}(h:æ B){f:Ze->Ze}(hi:∀t,(f t).id=t.id)(a:∀t,(f t).k=t.k)(c:∀t,(f t).q=t.q)(l:∀t∈B.t,(0<=(f t).υ/\(f t).υ<=13)/\0<=(f t).low/\-1<=(f t).high):æ ⟨B.t.map f,B.next⟩ where
 can t g:=by obtain⟨u,k,rfl⟩:=Ğ.1 g;rw[a,c];exact h.can u k
 ids i kr:=by
  have h2:i<B.t.length:=by simpa using kr
  show(B.t.map f)[i].id=_;rw[Ū,hi];exact h.ids i h2
 next:=by show B.next=((B.t.map f).length:Int)+1;rw[ć];exact h.next
 Ü:=by rw[Ź];refine h.Ü.imp λ{s t} e=>?_;show gO (f s).k (f s).q≠gO (f t).k (f t).q;rw[a,c,a,c];exact e
 lk i kr x d:=by
  have h2:i<B.t.length:=by simpa using kr
  have d:x∈ò ((B.t.map f)[i]'(by simpa using h2)).q.kind:=d;rw[Ū,c]at d;obtain⟨j,j2,j3,j4⟩:=h.lk i h2 x d;refine⟨j,by show j<(B.t.map f).length;rw[ć];exact j2,j3,?_⟩;show gO ((B.t.map f)[j]'(by simpa using j2)).k ((B.t.map f)[j]'(by simpa using j2)).q=gO ((B.t.map f)[i]'(by simpa using h2)).k x;rw[Ū,Ū,a,c,a];exact j4
 num t g:=by obtain⟨u,k,rfl⟩:=Ğ.1 g;exact l u k
theorem ZzT(l:Ŀ Zj){t:Ze}(h:0<=t.low/\-1<=t.high):0<=(l.foldl jx t).low/\-1<=(l.foldl jx t).high:=by
 induction l generalizing t with
 |nil=>exact h
 |cons c l a=>
  refine a ⟨?_,?_⟩
  .show 0<=CG _ _;unfold CG;split<;>omega
  show -1<=qL _ _;unfold qL;repeat' split
  all_goals omega
theorem Lh(k:Zb)(id:Int)(l:Ŀ Zj)(Λ:Int)(t:Ze):(stepT k id l Λ t).id=t.id/\(stepT k id l Λ t).k=t.k/\(stepT k id l Λ t).q=t.q:=by
 obtain⟨a,h2,h3,_⟩:=A2 l t;unfold stepT lb;by_cases e:þ t.k=þ k
 .rw[ą e];split
  .exact⟨a,h2,h3⟩
  exact⟨a,h2,h3⟩
 rw[ā e];split<;>exact⟨rfl,rfl,rfl⟩
theorem ZyL{k:Zb}{id:Int}{l:Ŀ Zj}{Λ:Int}(c:0<=Λ/\Λ<=12){t:Ze}(h:(0<=t.υ/\t.υ<=13)/\0<=t.low/\-1<=t.high):(0<=(stepT k id l Λ t).υ/\(stepT k id l Λ t).υ<=13)/\0<=(stepT k id l Λ t).low/\-1<=(stepT k id l Λ t).high:=by
 have key:∀u:Ze,(0<=u.υ/\u.υ<=13)/\0<=u.low/\-1<=u.high->(0<=(lb id Λ u).υ/\(lb id Λ u).υ<=13)/\0<=(lb id Λ u).low/\-1<=(lb id Λ u).high:=λu a=>by
  unfold lb;split
  .refine⟨?_,a.2⟩;show 0<=(if u.υ<Λ+1 then Λ+1 else u.υ)/\(if u.υ<Λ+1 then Λ+1 else u.υ)<=13;split<;>omega
  exact a
 unfold stepT;refine key _ ?_;split
 .rw[(A2 l t).2.2.2];exact⟨h.1,ZzT l h.2⟩
 exact h
theorem Zw2{B:Zd}(h:æ B){id:Int}{l:Ŀ Zj}{Λ:Int}(a:(hQ B id l Λ).2=0):æ (hQ B id l Λ).1/\(hQ B id l Λ).1.t.length=B.t.length:=by
 unfold hQ at a⊢;split at a
 .cases a
 split at a
 .cases a
 split at a
 .rw[ā ‹_›,ā ‹_›,ą ‹_›];exact⟨h.map (λt=>(Lh _ _ _ _ t).1) (λt=>(Lh _ _ _ _ t).2.1) (λt=>(Lh _ _ _ _ t).2.2) λt c=>ZyL ŉ (h.num t c),ć _⟩
 cases a
structure jZ (x:Zt):Prop where
 fY:0<=x.fY/\x.fY<=255
 c:ij x.c
 kind:0<=x.kind/\x.kind<=255
 p:iZ x.p
 o:0<=x.o/\x.o<=255
 l:∀y∈x.l,jG y
structure rG (x:Zt) (k:Zb) (q:Zc) (l:Ŀ Zj):Prop where
 core:(A9 x).Α k
 asks:(A8 x k).Α q
 nf:(AE x).Α l
 k:eA k
 q:fa q
 len:l.length<=4
 l:∀c∈l,Ë c
theorem ZxW{x:Zt}(c:jZ x){k:Zb}(h:eA k):∃q,(A8 x k).Α q/\fa q:=by
 have s:=h.ok.n;have l:=h.n3;obtain⟨n,j⟩:∃n:Nat,k.n=(n:Int):=⟨k.n.toNat,ŉ⟩;have i:(if 3<k.n then 3 else k.n)=(n:Int):=by rw[ā ŉ,j]
 have a:∀p:Ù,ω p->∃q,(EI x ⟨i64.wrap (Int.tmod x.kind 12),p,[]⟩).Α q/\fa q:=λp hp=>by
  by_cases e:i64.wrap (Int.tmod x.kind 12)=3
  .obtain⟨u,r⟩:∃u:Nat,x.o=(u:Int):=⟨x.o.toNat,by have:=c.o;omega⟩;have m:(xj x.o).Α (lV u):=by rw[r];exact TC (by have:=c.o;omega)
   exact⟨⟨_,p,lV u⟩,Cq.wp.yes e ⟨_,m,rfl⟩,⟨hp,.inl T7⟩⟩
  exact⟨_,Cq.wp.no e rfl,⟨hp,(fa.nil 0).o⟩⟩
 cases g:decide (i64.wrap (Int.tmod x.kind 12)=1\/i64.wrap (Int.tmod x.kind 12)=7\/i64.wrap (Int.tmod x.kind 12)=9)with
 |true=>
  obtain⟨q,f,h2⟩:=a _ (Ls c.p (n:=n) ŉ (d:=2) ĳ ĳ (k:=3) ĳ).1;exact⟨q,⟨true,by rw[<-g];exact LB _,Cq.wp.yes rfl ⟨_,by rw[i];exact Lt c.p (n:=n) ŉ ĳ ĳ (k:=3) ĳ,f⟩⟩,h2⟩
 |false=>
  obtain⟨q,f,h2⟩:=a [] (ω.of ĳ);exact⟨q,⟨false,by rw[<-g];exact LB _,Cq.wp.nr rfl f⟩,h2⟩
theorem Zvd{x:Zt}(c:jZ x):∃k,(A9 x).Α k/\eA k:=by obtain⟨a,f⟩:=Zvp c.c;obtain⟨e,d⟩:=Zx0 a ŉ;refine⟨_,⟨_,ZuL c.c,_,ZuY a,rfl⟩,d,?_⟩;rw[e];show pe _<=3;have g:(iU x.c).vars.length=jl x.c:=Fi x.c;have:=Bi x.c;unfold pe;split<;>omega
theorem Zyn{x:Zt}(a:jZ x):∃k q l,rG x k q l:=by obtain⟨k,c,k2⟩:=Zvd a;obtain⟨q,g,h⟩:=ZxW a k2;obtain⟨l,d,e,f⟩:=ZuJ a.l;exact⟨k,q,l,c,g,d,k2,h,e,f⟩
def lJ(B:Zd)(x:Zt)(k:Zb)(q:Zc)(l:Ŀ Zj):Zd×Int×Int:=
 if Int.tmod x.fY 2=0 then(if(gG B k q).2.2=0 then gG B k q else(B,0,(gG B k q).2.2))
 else(if(hQ B x.id l x.Λ).2=0 then((hQ B x.id l x.Λ).1,0,0)else(B,0,(hQ B x.id l x.Λ).2))
theorem ZxS{B:Zd}{k:Zb}{q:Zc}(h:¬(gG B k q).2.2=0):(gG B k q).2.1=0:=by
 unfold gG at h⊢;split at h
 .exact absurd rfl h
 rw[ā ‹_›]
theorem Zwh{B:Zd}(h:æ B)(g:B.t.length<=90){x:Zt}{k:Zb}{q:Zc}{l:Ŀ Zj}(a:rG x k q l):(Rq B x).Α (lJ B x k q l)/\(Ly B x).Α (lJ B x k q l):=by
 unfold lJ;by_cases d:Int.tmod x.fY 2=0
 .rw[ą d];have a1:=A1 h ŉ a.k a.q;have a2:=ZxP h ŉ a.k a.q;by_cases c:(gG B k q).2.2=0
  .rw[ą c];refine⟨Cq.wp.yes d ⟨_,a.core,_,a.asks,_,a1,Cq.wp.no (λe=>e c) rfl⟩,Cq.wp.yes d ⟨_,a.core,_,a.asks,_,a2,Cq.wp.no (λe=>e c) ?_⟩⟩;show _=_;have:gG B k q=((gG B k q).1,(gG B k q).2.1,0):=by rw[<-c]
   exact this.symm
  rw[ā c];refine⟨Cq.wp.yes d ⟨_,a.core,_,a.asks,_,a1,Cq.wp.yes c ?_⟩,Cq.wp.yes d ⟨_,a.core,_,a.asks,_,a2,Cq.wp.yes c rfl⟩⟩;show _=_;rw[ZxS c]
 rw[ā d];have f:=a.len;have a1:=AJ h ŉ x.id ŉ a.l x.Λ;have a2:=ZuZ h ŉ x.id ŉ a.l x.Λ;by_cases c:(hQ B x.id l x.Λ).2=0
 .rw[ą c];refine⟨Cq.wp.no d ⟨_,a.nf,_,a1,Cq.wp.no (λe=>e c) ?_⟩,Cq.wp.no d ⟨_,a.nf,_,a2,Cq.wp.no (λe=>e c) rfl⟩⟩;show _=_;rw[c]
 rw[ā c];exact⟨Cq.wp.no d ⟨_,a.nf,_,a1,Cq.wp.yes c rfl⟩,Cq.wp.no d ⟨_,a.nf,_,a2,Cq.wp.yes c rfl⟩⟩
theorem KW{B:Zd}(h:æ B){k:Zb}{q:Zc}(d:eA k)(e:fa q)(a:(gG B k q).2.2=0):Grown B (gG B k q).1 4:=by
 unfold gG at a⊢;split at a
 .rw[ą ‹_›];have c:=Mo (eS q (â k).2).kind;exact(FB (n:=5) ŉ h (iz.of d e ‹_›)).1.up c
 cases a
theorem Zwg{B:Zd}(h:æ B){x:Zt}{k:Zb}{q:Zc}{l:Ŀ Zj}(c:rG x k q l):æ (lJ B x k q l).1/\B.t.length<=(lJ B x k q l).1.t.length/\(lJ B x k q l).1.t.length<=B.t.length+4:=by
 unfold lJ;split
 .split
  .have a:=KW h c.k c.q ‹_›;exact⟨a.ok,a.pre.length_le,a.len⟩
  exact⟨h,Ĉ _,abq _ _⟩
 split
 .obtain⟨d,e⟩:=Zw2 h ‹_›;exact⟨d,aaV e.symm,by show(hQ B x.id l x.Λ).1.t.length<=_;omega⟩
 exact⟨h,Ĉ _,abq _ _⟩
def jt:Zd:=⟨[],1⟩
theorem yN:æ jt where
 can t a:=absurd a ĝ
 ids i hi:=absurd hi (ı _)
 next:=rfl
 Ü:=List.Pairwise.nil
 lk i hi:=absurd hi (ı _)
 num t a:=absurd a ĝ
theorem Zu7{l:Ŀ Zt}(h:∀x∈l,jZ x):∃B,(LA l).Α B/\æ B/\B.t.length<=24:=by
 have key:∀(m i:Nat),m+i=min l.length 6->∀B,æ B->B.t.length<=4*i->∃C,(QZ l ((i:Int),B)).Α C/\æ C/\C.t.length<=24:=by
  intro m;induction m with
  |zero=>
   intro i hi B d j;refine⟨B,Cq.Zs ?_,d,ŉ⟩;by_cases h:i<l.length
   .exact Cq.wp.yes ŉ (Cq.wp.no ŉ rfl)
   exact Cq.wp.no ŉ rfl
  |succ m n=>
   intro i hi B d j;have a:i<l.length:=ŉ;obtain⟨k,q,c,hp⟩:=Zyn (h _ (Ă a));obtain⟨d1,d2,d3⟩:=Zwg d hp;obtain⟨C,e,f,g⟩:=n (i+1) ŉ _ d1 ŉ;refine⟨C,Cq.Zs (Cq.wp.yes ŉ (Cq.wp.yes ŉ ⟨_,Μ a,_,(Zwh d ŉ hp).2,?_⟩)),f,g⟩;show(Cq.loop _ _).wp _;rw[ψ ŉ];exact e
 obtain⟨C,e,f,g⟩:=key (min l.length 6) 0 ŉ jt yN (Ĉ _);exact⟨C,⟨jt,rfl,Cq.eM e rfl⟩,f,g⟩
end Go.EL

namespace Go.Proofs.YtepbagkffgddlaaGreat
open Go.IntKind (i8 i16 i32 i64 u8 u16 u32 u64)
open Go.Proofs.Tryz
open Go Go.EL Go.RowKit Go.Proofs
def sC(x:Zu):Prop:=(∀y∈x.t,∀i,(Lit.int .i8 (y i)).wf=true)
def xX(x:ZA):Prop:=((Lit.int .u8 x.n).wf=true)/\(∀y∈x.l,sC y)/\(∀y∈x.iQ,(Lit.int .u8 y).wf=true)
def sB(x:ZM):Prop:=((Lit.int .u8 x.kind).wf=true)/\(∀y∈x.l,sC y)/\(∀y∈x.v,(Lit.int .i8 y).wf=true)
def CQ(x:Zt):Prop:=((Lit.int .u8 x.fY).wf=true)/\(xX x.c)/\((Lit.int .u8 x.kind).wf=true)/\(sC x.p)/\((Lit.int .u8 x.o).wf=true)/\(∀y∈x.l,sB y)/\((Lit.int .i64 x.id).wf=true)/\((Lit.int .i64 x.Λ).wf=true)
theorem nq(W:World):É prog W 37 ZP (sC):=by have h:=É.struct (W:=W) underlying37 İ (eP.last rfl İ (É.sl underlying35 İ ĳ (É.vec underlying197 underlying196 İ İ))) (λ(x:Zu)=>x.t) (λy=>⟨y⟩) (λ_=>rfl);exact h
theorem uN(W:World):É prog W 34 Kh (xX):=by have h:=É.struct (W:=W) underlying34 İ (eP.cons rfl İ (É.int underlying5) (eP.cons rfl İ (É.sl underlying31 İ ĳ (nq W)) (eP.last rfl İ (É.sl underlying32 İ ĳ (É.int underlying5))))) (λ(x:ZA)=>(x.n,x.l,x.iQ)) (λy=>⟨y.1,y.2.1,y.2.2⟩) (λ_=>rfl);exact h
theorem sD(W:World):É prog W 160 tS (sB):=by have h:=É.struct (W:=W) underlying160 İ (eP.cons rfl İ (É.int underlying5) (eP.cons rfl İ (É.sl underlying31 İ ĳ (nq W)) (eP.last rfl İ (É.sl underlying158 İ ĳ (É.int underlying196))))) (λ(x:ZM)=>(x.kind,x.l,x.v)) (λy=>⟨y.1,y.2.1,y.2.2⟩) (λ_=>rfl);exact h
theorem uO(W:World):É prog W 40 yu (CQ):=by have h:=É.struct (W:=W) underlying40 İ (eP.cons rfl İ (É.int underlying5) (eP.cons rfl İ (uN W) (eP.cons rfl İ (É.int underlying5) (eP.cons rfl İ (nq W) (eP.cons rfl İ (É.int underlying5) (eP.cons rfl İ (É.sl underlying38 İ ĳ (sD W)) (eP.cons rfl İ (É.int underlying3) (eP.last rfl İ (É.int underlying3))))))))) (λ(x:Zt)=>(x.fY,x.c,x.kind,x.p,x.o,x.l,x.id,x.Λ)) (λy=>⟨y.1,y.2.1,y.2.2.1,y.2.2.2.1,y.2.2.2.2.1,y.2.2.2.2.2.1,y.2.2.2.2.2.2.1,y.2.2.2.2.2.2.2⟩) (λ_=>rfl);exact h
theorem Ms{x:Zu}(h:sC x):iZ x:=λv a j=>wf_i8 (h v a j)
theorem ZyA{x:ZA}(h:xX x):ij x:=⟨wf_u8 h.1,λy c=>Ms (h.2.1 y c),λg a=>wf_u8 (h.2.2 g a)⟩
theorem Zyz{x:ZM}(h:sB x):jG x:=⟨wf_u8 h.1,λy c=>Ms (h.2.1 y c),λg a=>wf_i8 (h.2.2 g a)⟩
theorem Zzm{x:Zt}(h:CQ x):jZ x:=⟨wf_u8 h.1,ZyA h.2.1,wf_u8 h.2.2.1,Ms h.2.2.2.1,wf_u8 h.2.2.2.2.1,λy a=>Zyz (h.2.2.2.2.2.1 y a)⟩
set_option maxRecDepth 100000 in
theorem Zvv{W:World}{base:Nat}{v:Value}{H:Type}{enc:TypeId×Value->H}{b:Nat}{d:DataW H}{ps:Ŀ MemPlace}(a:Value.okWide prog W .any base 22 v)(h:DataW.Trod enc prog W b (λ_=>true) true 22 v d ps):∃p cap l,v=.slice p (List.length l) cap/\Η yu (ke W) (.slice p l.length cap) l/\∀y∈l,jZ y:=by obtain⟨p,cap,l,c,h2,h3⟩:=ZtF underlying22 İ ĳ (uO W) a h;exact⟨p,cap,l,c,h2,λy e=>Zzm (h3 y e)⟩
end Go.Proofs.YtepbagkffgddlaaGreat

