/- The law TaskShrinks holds for every input: a part of its proof (fC the code does, plain models, and fC they return). No condition. -/
import Derived.Test.YtepbagkffgddlaaGreatXS11d
import Derived.Test.YtepbagkffgddlaaGreatXS11c
import Derived.Test.YtepbagkffgddlaaGreatXS11b
set_option linter.unusedVariables false
set_option linter.unusedSimpArgs false
namespace Go.EL
open Go.IntKind (i8 i16 i32 i64 u8 u16 u32 u64)
open Go Go.RowKit
theorem Tk:∀(f:Nat) (n:Int),(iH f n).length<=f+1
 |0,_=>by simp[iH]
 |f+1,n=>by
  unfold iH;split
  .have:=Tk f (u64.wrap (Int.tdiv n 128));rw[Ě];omega
  simp
theorem rj(n:Int):(fw n).length<=11:=Tk 10 n
theorem qA{n:Int}(a:0<=n):0<=Int.tdiv n 128/\Int.tdiv n 128=n / 128:=⟨Int.tdiv_nonneg a ĳ,aa8 a⟩
theorem TN:∀(f:Nat) (b:Ŀ Int) (n:Int),0<=n->n<128 ^ (f+1)->n<18446744073709551616->b.length+f+1<=1000000->(E6 (b,n)).wp λo=>(E7 o.1 o.2).Α (b++iH f n)
 |0,b,n,c,d,h2,g=>by refine Cq.Zt (Cq.wp.no ŉ ?_);show(E7 b n).Α _;refine⟨?_,rfl⟩;rw[Ā,ė];simp only[small];omega
 |f+1,b,n,c,d,h2,g=>by
  by_cases h:127<n
  .refine Cq.Zt (Cq.wp.yes h ⟨?_,?_⟩)
   .rw[Ā,ė];simp only[small];omega
   obtain⟨d0,d1⟩:=qA c;have a:n / 128<128 ^ (f+1):=Int.ediv_lt_of_lt_mul ĳ (by rw[<-Int.pow_succ];exact d);have i:u64.wrap (Int.tdiv n 128)=n / 128:=by rw[d1];exact qJ ⟨ŉ,ŉ⟩
   show(E6 _).wp _;have j:=TN f (b++[u8.wrap (u8.wrap (Int.tmod n 128)+128)]) (u64.wrap (Int.tdiv n 128)) ŉ (by rw[i];exact a) ŉ (by rw[Ā,ė];omega);refine(E6 _).mono (λo e=>?_) j;rw[Đ]at e;unfold iH;rw[ą (show 128<=n by omega)];exact e
  refine Cq.Zt (Cq.wp.no h ?_);show(E7 b n).Α _;unfold iH;rw[ā (show ¬128<=n by omega)];refine⟨?_,rfl⟩;rw[Ā,ė];simp only[small];omega
theorem Ol:(128:Int) ^ (10+1)=151115727451828646838272:=ĳ
theorem vz{b:Ŀ Int}{n:Int}(h:0<=n/\n<18446744073709551616)(c:b.length<=900000):(uj b n).Α (b++fw n):=by have a:=Ol;exact TN 10 b n h.1 ŉ h.2 ŉ
theorem xK{n:Nat}(h:n<=1000000):u64.wrap (n:Int)=(n:Int):=qJ ⟨ŉ,ŉ⟩
theorem Lp(d:Int):(fF d).length=4:=rfl
theorem ua{α:Type}{f:α->Ŀ Int}{K:Nat}:∀{l:Ŀ α},(∀x∈l,(f x).length<=K)->(l.flatMap f).length<=K*l.length
 |[],_=>ĉ _
 |x::l,h=>by have c:=h x ß;have h2:=ua (l:=l) (λy a=>h y (by simp[a]));rw[ř,Ā,Ě,Nat.mul_succ];omega
theorem Fp{α:Type}(f:α->Ŀ Int)(l:Ŀ α){k:Nat}(a:k<l.length):(l.take (k+1)).flatMap f=(l.take k).flatMap f++f l[k]:=by rw[č a,du];simp
theorem Lx{a:Zg}(h:a.χ.length<=1):(lx a).length<=15:=by unfold lx;rw[Ā];have c:=rj (if a.neg=true then u64.wrap (u64.wrap (2*u64.wrap (a.χ.length:Int))+1)else u64.wrap (2*u64.wrap (a.χ.length:Int)));have h2:=ua (K:=4) (l:=a.χ) (f:=fF) (λx _=>aaS (Lp x));omega
theorem RQ{b:Ŀ Int}{a:Zg}(h:a.χ.length<=1)(m:b.length<=800000):(AX b a).Α (b++lx a):=by
 have key:∀s:Int,0<=s->s<=1->(EC b a s).Α (b++(fw (u64.wrap (u64.wrap (u64.wrap (a.χ.length:Int)*2)+s))++a.χ.flatMap fF)):=λs p q=>by
  have e:=xK (n:=a.χ.length) ŉ;have c:u64.wrap ((a.χ.length:Int)*2)=(a.χ.length:Int)*2:=qJ ⟨ŉ,ŉ⟩;have j:u64.wrap ((a.χ.length:Int)*2+s)=(a.χ.length:Int)*2+s:=qJ ⟨ŉ,ŉ⟩;refine⟨_,vz (by rw[e,c,j];omega) ŉ,?_⟩;have d:=rj (u64.wrap (u64.wrap (u64.wrap (a.χ.length:Int)*2)+s));generalize fw (u64.wrap (u64.wrap (u64.wrap (a.χ.length:Int)*2)+s))=N at *;refine Cq.Zn a.χ.length (λk st=>st=(b++N++(a.χ.take k).flatMap fF,(k:Int))) (λk st i g=>?_) (λst g=>?_) (by show _=_;simp)
  .subst g;refine Cq.wp.yes ŉ ⟨_,Ξ i,?_,?_⟩
   .have:=ua (K:=4) (l:=a.χ.take k) (f:=fF) (λx _=>aaS (Lp x));rw[Č]at this;simp only[Ā,Ě,Ļ,small];omega
   show _=_;rw[ψ ŉ,Fp fF a.χ i,<-Đ];rfl
  subst g;refine Cq.wp.no ŉ ?_;rw[ě (ĉ _)];show _=_;rw[Đ]
 unfold AX;have e:=xK (n:=a.χ.length) ŉ;have c:u64.wrap ((a.χ.length:Int)*2)=(a.χ.length:Int)*2:=qJ ⟨ŉ,ŉ⟩;by_cases d:a.neg=true
 .refine Cq.wp.yes d ?_;have:=key 1 ĳ ĳ;unfold lx;rw[ą d,aaB 2];exact this
 refine Cq.wp.no d ?_;have:=key 0 ĳ ĳ;unfold lx;rw[ā d,aaB 2];rw[aaA,e,c,c]at this;rw[e,c];exact this
theorem ω.CS{p:Ú}(h:ω p){t:Za}(d:t∈p):t.c.num.χ.length<=1/\t.c.den.χ.length<=1:=by obtain⟨a,c⟩:=h.parts d;rw[a,c];refine⟨?_,ĉ 1⟩;show(uP _).length<=1;unfold uP;split<;>simp
theorem Ub{p:Ú}(h:ω p){t:Za}(c:t∈p):(mG t.c).length<=30:=by obtain⟨a,h2⟩:=h.CS c;have:=Lx a;have:=Lx h2;unfold mG;rw[Ā];omega
theorem LR(m:M):∀k,(iG m k).length<=11*k
 |0=>ĉ _
 |k+1=>by have:=LR m k;have:=rj (u64.wrap (Θ m (k:Int)));unfold iG;rw[Ā];omega
theorem Tc{p:Ú}(h:ω p){t:Za}(a:t∈p):(fU t).length<=118:=by have:=Ub h a;have:=LR t.m 8;unfold fU;rw[Ā];omega
theorem Fu{p:Ú}(h:ω p):(fE p).length<=11811:=by have c:=rj (u64.wrap (p.length:Int));have h2:=ua (f:=fU) (K:=118) (λt a=>Tc h a);have h3:=h.len;have:118*p.length<=11800:=ŉ;unfold fE;rw[Ā];omega
theorem AR{l:Ŀ Ú}(h:∀p∈l,ω p)(c:l.length<=12):(fR l).length<=150000:=by have a:=rj (u64.wrap (l.length:Int));have h2:=ua (f:=fE) (K:=11811) (λp hp=>Fu (h p hp));have:11811*l.length<=141732:=ŉ;unfold fR;rw[Ā];omega
theorem S8{b:Ŀ Int}{p:Ú}(h:ω p)(A:b.length<=700000):(FV b p).Α (b++fE p):=by
 have C:=h.len;have m:=xK (n:=p.length) ŉ;refine⟨_,vz (by rw[m];omega) ŉ,?_⟩;unfold fE;have E:=rj (u64.wrap (p.length:Int));generalize fw (u64.wrap (p.length:Int))=N at *;refine Cq.Zn p.length (λk st=>st=(b++N++(p.take k).flatMap fU,(k:Int))) (λk st d a=>?_) (λst a=>?_) (by show _=_;simp)
 .subst a;have e:=ă d;obtain⟨i,y⟩:=h.CS e;have r:=ua (K:=118) (l:=p.take k) (f:=fU) (λx v=>Tc h (Ŝ v));rw[Č]at r;have s:118*min k p.length<=11800:=ŉ;have hr:=Ub h e;refine Cq.wp.yes ŉ ⟨_,Ξ d,b++N++(p.take k).flatMap fU++mG p[k].c,⟨_,RQ i (by simp only[Ā];omega),_,RQ y (by
   have:=Lx i;simp only[Ā];omega),?_⟩,?_⟩
  .show _=_;unfold mG;simp only[Đ]
  generalize g:b++N++(p.take k).flatMap fU++mG p[k].c=B;have q:B.length<=750000:=by rw[<-g];simp only[Ā];omega
  refine Cq.Zn 8 (λj st=>st=(B++iG p[k].m j,(j:Int))) (λj st c a=>?_) (λst a=>?_) (by show _=_;simp[iG])
  .subst a;have D:=(h.mono _ e) ⟨j,c⟩;have t:=LR p[k].m j;have u:u64.wrap (p[k].m ⟨j,c⟩)=p[k].m ⟨j,c⟩:=qJ ⟨ŉ,ŉ⟩;refine Cq.wp.yes ŉ ⟨_,Ξ d,⟨ŉ,ŉ⟩,B++iG p[k].m j++fw (u64.wrap (Θ p[k].m (j:Int))),vz (by rw[Ö c,u];omega) (by rw[Ā];omega),?_⟩;show _=_;rw[ψ ŉ,Đ];rfl
  subst a;refine Cq.wp.no ĳ ?_;show _=_;rw[ψ ŉ,Fp fU p d,<-g];unfold fU;simp only[Đ]
 subst a;refine Cq.wp.no ŉ ?_;rw[ě (ĉ _)];show _=_;rw[Đ]
theorem RN{b:Ŀ Int}{l:Ŀ Ú}(h:∀p∈l,ω p)(m:l.length<=12)(j:b.length<=500000):(FE b l).Α (b++fR l):=by
 have d:=xK (n:=l.length) ŉ;refine⟨_,vz (by rw[d];omega) ŉ,?_⟩;unfold fR;have q:=rj (u64.wrap (l.length:Int));generalize fw (u64.wrap (l.length:Int))=N at *;refine Cq.Zn l.length (λk st=>st=(b++N++(l.take k).flatMap fE,(k:Int))) (λk st a c=>?_) (λst c=>?_) (by show _=_;simp)
 .subst c;have e:=ua (K:=11811) (l:=l.take k) (f:=fE) (λx i=>Fu (h x (Ŝ i)));rw[Č]at e;have g:11811*min k l.length<=141732:=ŉ;refine Cq.wp.yes ŉ ⟨_,Ξ a,_,S8 (h _ (ă a)) (by simp only[Ā];omega),?_⟩;show _=_;rw[ψ ŉ,Fp fE l a];simp only[Đ]
 subst c;refine Cq.wp.no ŉ ?_;rw[ě (ĉ _)];show _=_;rw[Đ]
structure iR (n:Int) (least:Int) (l:Ŀ Ú):Prop where
 len:l.length<=12
 ia:∀p∈l,ω p/\Ñ p n=true/\p≠[]/\Χ p=p/\least<=gi p
 st:hN l
structure æ (k:Zb):Prop where
 n:1<=k.n/\k.n<=4
 eqs:iR k.n 0 k.eqs
 ε:iR k.n 1 k.ε
theorem F5(n:Int):(lz n).length<=11:=rj _
theorem S6{k:Zb}(g:0<=k.n/\k.n<=1000)(c:∀p∈k.eqs,ω p)(hi:∀p∈k.ε,ω p)(le:k.eqs.length<=12)(e:k.ε.length<=12):(vx [] k).Α (gW k):=by
 have d:u64.wrap k.n=k.n:=qJ ⟨ŉ,ŉ⟩;have a:u64.wrap (k.n*2)=k.n*2:=qJ ⟨ŉ,ŉ⟩;have f:=F5 k.n;have h2:=AR c le;refine⟨lz k.n,Cq.wp.no ŉ ⟨_,vz (b:=[]) (by rw[d,a];omega) ß,?_⟩,_,RN c le ŉ,_,RN hi e (by rw[Ā];omega),?_⟩
 .show _=_;unfold lz;rw[aaB 2];rfl
 rfl
theorem æ.Da{k:Zb}(h:æ k):(vx [] k).Α (gW k):=S6 ⟨by have:=h.n;omega,by have:=h.n;omega⟩ (λp hp=>(h.eqs.ia p hp).1) (λp hp=>(h.ε.ia p hp).1) h.eqs.len h.ε.len
theorem Zwj{k:Zb}(h:æ k):(gW k).length<=1000000:=by have a:=F5 k.n;have h2:=AR (λp hp=>(h.eqs.ia p hp).1) h.eqs.len;have h3:=AR (λp hp=>(h.ε.ia p hp).1) h.ε.len;unfold gW;simp only[Ā];omega
theorem Fo{p:Ú}{n:Int}(h:Ñ p n=true):(Int.fdiv (i64.wrap (ð p)) (2 ^ (min n.toNat i64.bits)))=0/\gi p<=12:=by
 unfold Ñ at h;split at h
 .exact⟨‹_›,ĥ h⟩
 cases h
theorem Sw{l:Ŀ Ú}(h:hN l){k:Nat}(a:k+1<l.length):ë l[k] l[k+1]<0:=ħ.1 h k (k+1) ŉ a ŉ
theorem Q1{k:Zb}(p:1<=k.n/\k.n<=4){least:Int}{l:Ŀ Ú}(h:iR k.n least l):(Á ⟨k⟩ l least).Α true:=by
 have n:=h.len;refine Cq.wp.no ŉ ?_;refine Cq.Zn l.length (λj s=>s=(j:Int)) (λj s c d=>?_) (λs d=>?_) rfl
 .subst d;obtain⟨a,f,g,q4,q5⟩:=h.ia _ (ă c);obtain⟨f1,f2⟩:=Fo f;refine Cq.wp.yes ŉ ⟨_,Ξ c,true,⟨true,D4 a,_,FZ a.len,by show 0<=k.n;omega,Cq.wp.yes f1 ⟨_,yG a,Ă f2⟩⟩,_,yG a,Cq.wp.no ŉ ⟨_,Kt a g,true,?_,Cq.wp.no ĳ ?_⟩⟩
  .rw[q4];have:=Fc a.gp a.gp;rw[xy]at this;exact this
  by_cases e:(0:Int)<(j:Int)
  .obtain⟨i,rfl⟩:∃i,j=i+1:=⟨j-1,ŉ⟩;have hi:i64.wrap (((i+1:Nat):Int)-1)=(i:Int):=by rw[wrap64 ŉ];omega
   have m:=Sw h.st c;refine Cq.wp.yes e ?_;rw[hi];refine⟨_,Ξ ŉ,_,Tb (h.ia _ (ă ŉ)).1.gp a.gp,Cq.wp.no ŉ ?_⟩;exact ψ ŉ
  exact Cq.wp.no e (ψ ŉ)
 subst d;exact Cq.wp.no ŉ rfl
theorem Ff{k:Zb}(h:æ k):(vk k).Α true:=
 ⟨true,Cq.wp.yes h.n.1 (Cq.wp.yes h.n.2 ⟨true,Q1 h.n h.eqs,true,Q1 h.n h.ε,rfl⟩),rfl⟩
theorem Zre{p:Ú}(h:ω p){n:Nat}(e:n<=4)(d:Ñ p (n:Int)=true):(xg p (n:Int) 12).Α true:=by
 have g:=(pC (p:=p) (n:=n) ŉ).1 d;obtain⟨f1,f2⟩:=Fo d;have c:u64.wrap (n:Int)=(n:Int):=by
  match n,e with
  |0,_=>rfl
  |1,_=>rfl
  |2,_=>rfl
  |3,_=>rfl
  |4,_=>rfl
 have i:=uf p;have f:=yQ.2 g.1;rw[Ů]at f;have a:(ð p).toNat<2 ^ n:=by
  rcases eH.1 f with h|h
  .have:=aab n;omega
  exact h
 refine⟨true,Aq h,_,AE h.len,by rw[c];omega,Cq.wp.yes ?_ ⟨_,wW h,Ă f2⟩⟩;rw[c,wrap64 ŉ];match n,e with
 |0,_=>exact œ (show ð p<1 by simp at a;omega) ĳ
 |1,_=>exact œ (show ð p<2 by simp at a;omega) ĳ
 |2,_=>exact œ (show ð p<4 by simp at a;omega) ĳ
 |3,_=>exact œ (show ð p<8 by simp at a;omega) ĳ
 |4,_=>exact œ (show ð p<16 by simp at a;omega) ĳ
theorem Qr{n:Int}(f:1<=n/\n<=4){least:Int}{l:Ŀ Ú}(h:iR n least l):(Fa l n).Α true:=by
 have r:=h.len;obtain⟨m,rfl,t,g⟩:=vI f;refine Cq.wp.no ŉ ?_;refine Cq.Zn l.length (λj s=>s=(j:Int)) (λj s a d=>?_) (λs d=>?_) rfl
 .subst d;obtain⟨c,k,p,q4,q5⟩:=h.ia _ (ă a);have hp:0<l[j].length:=ş.2 p;refine Cq.wp.yes ŉ ⟨_,Ξ a,true,Zre c g k,_,Ξ a,Cq.wp.no ŉ ⟨_,Ξ a,_,PK c,_,Ξ a,true,?_,?_⟩⟩
  .rw[q4];have:=KB c.gp c.gp;rw[xy]at this;exact this
  show(if(0:Int)<(j:Int)then _ else _:Cq _).wp _;by_cases e:(0:Int)<(j:Int)
  .obtain⟨i,rfl⟩:∃i,j=i+1:=⟨j-1,ŉ⟩;have hi:i64.wrap (((i+1:Nat):Int)-1)=(i:Int):=by rw[wrap64 ŉ];omega
   have q:=Sw h.st a;refine Cq.wp.yes e ?_;rw[hi];refine⟨_,Ξ ŉ,_,Ξ a,_,S7 (h.ia _ (ă ŉ)).1.gp c.gp,Cq.wp.no ŉ ?_⟩;exact ψ ŉ
  exact Cq.wp.no e (ψ ŉ)
 subst d;exact Cq.wp.no ŉ rfl
theorem Kd{k:Zb}(h:æ k):(AW k).Α true:=by
 have f:=h.n;have e:=h.ε.len;refine Cq.wp.no ŉ (Cq.wp.no ŉ ⟨true,Qr h.n h.eqs,true,Qr h.n h.ε,Cq.wp.no ĳ ?_⟩);refine Cq.Zn k.ε.length (λj s=>s=(j:Int)) (λj s c a=>?_) (λs a=>?_) rfl
 .subst a;obtain⟨d,g,i,q4,q5⟩:=h.ε.ia _ (ă c);refine Cq.wp.yes ŉ ⟨_,Ξ c,_,wW d,Cq.wp.no ŉ ?_⟩;exact ψ ŉ
 subst a;exact Cq.wp.no ŉ rfl
def ý(k:Zb):Ĳ:=bytesOf (gW k)
theorem zg{k:Zb}(h:æ k):(vp k).Α (ý k):=⟨true,Ff h,⟨by have:=h.n;omega,Zwj h⟩,rfl⟩
theorem TM{k:Zb}(h:æ k):(Gh k).Α (ý k):=⟨true,Kd h,Cq.wp.no ĳ ⟨_,h.Da,rfl⟩⟩
end Go.EL

namespace Go.EL
open Go.IntKind (i8 i16 i32 i64 u8 u16 u32 u64)
open Go Go.RowKit
structure gD (n:Nat) (π:M):Prop where
 perm:Ì π
 fix:∀i:Fin 8,n<=i.val->π i=(i.val:Int)
def jH(n:Nat)(π:M):Bool:=decide (∀i,0<=π i/\π i<8)&&decide (∀i j,π i=π j->i=j)&&decide (∀i:Fin 8,n<=i.val->π i=(i.val:Int))
theorem gD.of{n:Nat}{π:M}(h:jH n π=true):gD n π:=by unfold jH at h;simp only[Ĉ,Ę]at h;exact⟨⟨h.1.1,h.1.2⟩,h.2⟩
theorem Zxf:((Δ 1).all (jH 1)&&(Δ 2).all (jH 2)&&(Δ 3).all (jH 3)&&(Δ 4).all (jH 4))=true:=by decide +kernel
theorem oi{n:Nat}(h:1<=n/\n<=4){π:M}(hp:π∈Δ n):gD n π:=by
 have:=Zxf;simp only[Ĉ,Ć]at this;obtain⟨⟨⟨a,h2⟩,h3⟩,c⟩:=this;have d:n=1\/n=2\/n=3\/n=4:=ŉ;rcases d with rfl|rfl|rfl|rfl
 .exact .of (a π hp)
 .exact .of (h2 π hp)
 .exact .of (h3 π hp)
 exact .of (c π hp)
theorem Zv0{n:Nat}(h:1<=n/\n<=4):(Lh (n:Int)).Α (Δ n):=by
 have a:n=1\/n=2\/n=3\/n=4:=ŉ;rcases a with rfl|rfl|rfl|rfl<;>exact Cq.Α.mm 60 (by decide +kernel)
theorem vw{n:Nat}:Δ n=(λi:Fin 8=>(i.val:Int))::(Δ n).tail:=rfl
theorem SR{n:Nat}(d:n<=8){π:M}(h:gD n π){p:Ú}(hp:ω p)(f:Ñ p (n:Int)=true):Ñ (à π p) (n:Int)=true:=by
 obtain⟨e,h2⟩:=(pC d).1 f;refine(pC d).2 ⟨λt a i hi=>?_,λt a=>?_⟩
 .obtain⟨y,c,rfl⟩:=Ğ.1 ((rl h.perm hp.ord).1.mem_iff.1 a);show ¬0<fx π y.m i;rw[ue h.perm y.m i i (h.fix i hi).symm];exact e y c i hi
 obtain⟨y,c,rfl⟩:=Ğ.1 ((rl h.perm hp.ord).1.mem_iff.1 a);show fH (fx π y.m)<=12;rw[K5 h.perm];exact h2 y c
theorem Zxd{π:M}(h:Ì π){p:Ú}(hp:ω p):(à π p).length=p.length:=by rw[(rl h hp.ord).1.length_eq,ć]
theorem Zyu{π:M}(h:Ì π){p:Ú}(hp:ω p)(a:p≠[]):à π p≠[]:=λe=>by have:=Zxd h hp;rw[e]at this;exact a (abq.1 this.symm)
theorem Zzp{p q:Ú}(hp:ω p)(e:ω q)(h:∀d,-1<=d->((∀t∈p,fH t.m<=d)↔∀t∈q,fH t.m<=d)):gi p=gi q:=by
 have low:∀r:Ú,-1<=gi r:=λr=>by
  have key:∀k,-1<=fI r k:=by
   intro k;induction k with
   |zero=>exact Ō _
   |succ k a=>
    unfold fI;split
    .split<;>omega
    exact a
  exact key _
 have c:=(tE (low q)).2 ((h _ (low q)).2 ((tE (low q)).1 (Ō _)));have h2:=(tE (low p)).2 ((h _ (low p)).1 ((tE (low p)).1 (Ō _)));omega
theorem Zxc{π:M}(h:Ì π){p:Ú}(hp:ω p):gi (à π p)=gi p:=by
 refine Zzp (oF h hp) hp (λd _=>⟨λa t c=>?_,λa t c=>?_⟩)
 .have:=a (jn π t) ((rl h hp.ord).1.mem_iff.2 (Ğ.2 ⟨t,c,rfl⟩));have e:fH (jn π t).m=fH t.m:=K5 h t.m;omega
 obtain⟨y,f,rfl⟩:=Ğ.1 ((rl h hp.ord).1.mem_iff.1 c);have:=a y f;have e:fH (jn π y).m=fH y.m:=K5 h y.m;omega
theorem Zz1{n:Nat}(h:n<=4):Ñ jc (n:Int)=true:=(pC ŉ).2 ⟨λt a i _=>by rw[jc,Ĕ]at a;subst a;exact Int.lt_irrefl 0,λt a=>by rw[jc,Ĕ]at a;subst a;decide⟩
theorem Zz0:gi jc=0:=ĳ
theorem TD{l:Ŀ Ú}{plain:Bool}{q:Ú}(h:q∈kept l plain):∃p∈l,q=Χ p/\p≠[]/\(plain=true->gi p≠0):=by
 obtain⟨a,h2⟩:=ō.1 h;obtain⟨p,hp,rfl⟩:=Ğ.1 a;unfold gY at h2;simp only[Ĉ,ő,aaC]at h2;refine⟨p,hp,rfl,λe=>?_,λe=>?_⟩
 .rw[e]at h2;cases h2.1
 rcases h2.2 with h2|h2
 .rw[e]at h2;cases h2
 rw[xD]at h2;exact aaV h2
theorem ZzR{l:Ŀ Ú}{plain:Bool}{p:Ú}(hp:p∈l)(c:p≠[])(d:plain=true->gi p≠0):Χ p∈kept l plain:=by
 refine ō.2 ⟨Ğ.2 ⟨p,hp,rfl⟩,?_⟩;have a:(Χ p).isEmpty=false:=by simpa using λe=>c (Bn.1 e)
 unfold gY;rw[a,xD];cases plain with
 |false=>rfl
 |true=>rw[ċ (d rfl)];rfl
theorem Vk{n:Nat}(e:n<=4){least:Int}{l:Ŀ Ú}(a:(ep l).length<=12)(h:∀p∈l,ω p/\Ñ p (n:Int)=true/\p≠[]/\Χ p=p/\least<=gi p):iR (n:Int) least (ep l):=by obtain⟨c,d⟩:=Ga (l:=l) (λp hp=>(h p hp).1.gp);exact⟨a,λp hp=>h p ((d p).1 hp),c⟩
theorem Up{n:Nat}(f:1<=n/\n<=4){eqs ε:Ŀ Ú}(g:∀p∈eqs,ω p/\Ñ p (n:Int)=true)(hi:∀p∈ε,ω p/\Ñ p (n:Int)=true)(j:(ep (hQ eqs ε)).length<=12)(k:(ep (kept ε true)).length<=12):
  æ ⟨(n:Int),ep (hQ eqs ε),ep (kept ε true)⟩ where
 n:=by show 1<=(n:Int)/\(n:Int)<=4;omega
 eqs:=Vk f.2 j λp hp=>by
  rcases Ĩ.1 hp with h|h
  .obtain⟨q,d,rfl,c,_⟩:=TD h;have a:=(g q d).1;exact⟨vH a,by rw[T9];exact(g q d).2,λe=>c (Bn.1 e),Sp a,by rw[xD];exact Kq a c⟩
  rw[LY p h];exact⟨Bw,Zz1 f.2,ĳ,LX,by rw[Zz0];decide⟩
 ε:=Vk f.2 k λp hp=>by obtain⟨q,d,rfl,c,i⟩:=TD hp;have a:=(hi q d).1;have:=Kq a c;have:=i rfl;exact⟨vH a,by rw[T9];exact(hi q d).2,λe=>c (Bn.1 e),Sp a,by rw[xD];omega⟩
def ÿ(k:Zb)(π:M):Zb:=(iq k.n (k.eqs.map (à π)) (k.ε.map (à π))).1
theorem Lj{l:Ŀ Ú}(h:∀p∈l,p≠[]):gI l=[]:=by unfold gI;rw[List.filter_eq_nil_iff.2 λp hp=>by simpa using h p hp];rfl
structure Al (k:Zb) (π:M):Prop where
 norm:iq k.n (k.eqs.map (à π)) (k.ε.map (à π))=(ÿ k π,0)
 eq:ÿ k π=⟨k.n,ep (hQ (k.eqs.map (à π)) (k.ε.map (à π))),ep (kept (k.ε.map (à π)) true)⟩
 core:æ (ÿ k π)
theorem Gy{l:Ŀ Ú}{n:Nat}{least:Int}(g:n<=4)(h:iR (n:Int) least l){π:M}(a:gD n π):∀p∈l.map (à π),ω p/\Ñ p (n:Int)=true/\p≠[]/\least<=gi p:=λp hp=>by obtain⟨q,d,rfl⟩:=Ğ.1 hp;obtain⟨c,e,f,q4,q5⟩:=h.ia q d;exact⟨oF a.perm c,SR ŉ a c e,Zyu a.perm c f,by rw[Zxc a.perm c];exact q5⟩
theorem lW{k:Zb}(h:æ k){π:M}(a:gD k.n.toNat π):Al k π:=by
 obtain⟨n,eqs,ε⟩:=k;obtain⟨m,rfl,t,f⟩:=vI h.n;dsimp only at a⊢;rw[ē]at a;have e:=Gy f h.eqs a;have hi:=Gy f h.ε a;have r:(ep (hQ (eqs.map (à π)) (ε.map (à π)))).length<=12:=by have g:=Gq (hQ (eqs.map (à π)) (ε.map (à π)));have i:=vA (eqs.map (à π)) false;have j:=h.eqs.len;unfold hQ at g;rw[Lj (λp hp=>(hi p hp).2.2.1),ę]at g;unfold hQ;rw[Lj (λp hp=>(hi p hp).2.2.1),ę];rw[ć]at i;dsimp only at j;omega
 have s:(ep (kept (ε.map (à π)) true)).length<=12:=by have g:=Gq (kept (ε.map (à π)) true);have i:=vA (ε.map (à π)) true;have j:=h.ε.len;rw[ć]at i;dsimp only at j;omega
 have q:=Up ⟨t,f⟩ (λp hp=>⟨(e p hp).1,(e p hp).2.1⟩) (λp hp=>⟨(hi p hp).1,(hi p hp).2.1⟩) r s;have c:(eqs.map (à π)++ε.map (à π)).all (λp=>Ñ p (m:Int))=true:=Ć.2 λp hp=>(Ĩ.1 hp).elim (λh=>(e p h).2.1) (λh=>(hi p h).2.1);have l:iq (m:Int) (eqs.map (à π)) (ε.map (à π))=(⟨(m:Int),ep (hQ (eqs.map (à π)) (ε.map (à π))),ep (kept (ε.map (à π)) true)⟩,0):=by unfold iq;rw[ą ⟨ŉ,ŉ⟩,ą c,ā ŉ,ā ŉ]
 have d:ÿ ⟨(m:Int),eqs,ε⟩ π=⟨(m:Int),ep (hQ (eqs.map (à π)) (ε.map (à π))),ep (kept (ε.map (à π)) true)⟩:=by unfold ÿ;dsimp only;rw[l]
 exact⟨by rw[l,d],d,by rw[d];exact q⟩
theorem QR{l:Ŀ Ú}(i:l.length<=100)(h:∀p∈l,ω p){π:M}(g:Ì π):(Ax l π).Α (l.map (à π)):=by
 refine⟨⟨ŉ,ŉ⟩,?_⟩;refine Cq.Zn l.length (λk s=>s=((l.take k).map (à π)++List.replicate (l.length-k) [],(k:Int))) (λk s c f=>?_) (λs f=>?_) (by show _=_;simp)
 .subst f;have a:((l.take k).map (à π)++List.replicate (l.length-k) ([]:Ú)).length=l.length:=ab0;refine Cq.wp.yes ŉ ⟨_,Ξ c,_,QF g (h _ (ă c)),_,Ξ (by rw[a];exact c),?_⟩;show _=_;rw[ψ ŉ,ē,č c,Ī,List.map_singleton];congr 1;rw[List.set_append,ā (by rw[ć,Č];omega)];have e:l.length-k=(l.length-(k+1))+1:=ŉ;have d:k-((l.take k).map (à π)).length=0:=ab0;rw[d,e,aai,aa3,Đ];rfl
 subst f;refine Cq.wp.no ŉ ?_;show _=_;rw[ě (ĉ _)];simp
theorem Qd{k:Zb}(h:æ k){π:M}(a:gD k.n.toNat π):(ED k π).Α (ÿ k π):=by
 have f:=h.eqs.len;have g:=h.ε.len;refine Cq.Zn k.eqs.length (λj s=>s=((k.eqs.take j).map (à π),(j:Int))) (λj s c d=>?_) (λs d=>?_) rfl
 .subst d;refine Cq.wp.yes ŉ ⟨_,Ξ c,_,Jo a.perm (h.eqs.ia _ (ă c)).1,?_,?_⟩
  .simp only[Ā,ć,Č,ė,small];omega
  show _=_;rw[ψ ŉ,č c,Ī];rfl
 subst d;refine Cq.wp.no ŉ ?_;rw[ě (ĉ _)];show(PD k π (k.eqs.map (à π))).Α _;refine Cq.Zn k.ε.length (λj s=>s=((k.ε.take j).map (à π),(j:Int))) (λj s c d=>?_) (λs d=>?_) rfl
 .subst d;refine Cq.wp.yes ŉ ⟨_,Ξ c,_,Jo a.perm (h.ε.ia _ (ă c)).1,?_,?_⟩
  .simp only[Ā,ć,Č,ė,small];omega
  show _=_;rw[ψ ŉ,č c,Ī];rfl
 subst d;refine Cq.wp.no ŉ ?_;rw[ě (ĉ _)];show(PC k (k.eqs.map (à π)) (k.ε.map (à π))).Α _;refine⟨_,Rh (by rw[ć];omega) (by rw[ć];omega) (λp hp=>?_) (λp hp=>?_),rfl⟩
 .obtain⟨q,e,rfl⟩:=Ğ.1 hp;exact oF a.perm (h.eqs.ia q e).1
 obtain⟨q,e,rfl⟩:=Ğ.1 hp;exact oF a.perm (h.ε.ia q e).1
def fm(k:Zb):Ŀ M->Zb×M->Zb×M
 |[],s=>s
 |π::l,s=>fm k l (if Op.bytesLess (ý (ÿ k π)).toList (ý s.1).toList=true then(ÿ k π,π)else s)
def â(k:Zb):Zb×M:=fm k (Δ k.n.toNat).tail (ÿ k (λi=>(i.val:Int)),λi=>(i.val:Int))
theorem SD(k:Zb):∀(l:Ŀ M) (s:Zb×M) (π:M),fm k (l++[π]) s=(if Op.bytesLess (ý (ÿ k π)).toList (ý (fm k l s).1).toList=true then(ÿ k π,π)else fm k l s)
 |[],_,_=>rfl
 |x::l,s,π=>SD k l _ π
theorem Ml{k:Zb}(h:æ k):∀{l:Ŀ M}{s:Zb×M},(∀π∈l,gD k.n.toNat π)->æ s.1->æ (fm k l s).1
 |[],_,_,a=>a
 |π::l,s,c,a=>by
  unfold fm;refine Ml h (λx d=>c x (by simp[d])) ?_;split
  .exact (lW h (c π ß)).core
  exact a
theorem RT(l:Ŀ Int):(bytesOf l).size=l.length:=by
 have key:∀(l:Ŀ Int) (b:Ĳ),(l.foldl (λr n=>r.push (UInt8.ofNat n.toNat)) b).size=b.size+l.length:=by
  intro l;induction l with
  |nil=>intro b;rfl
  |cons x l a=>intro b;rw[List.foldl_cons,a,ByteArray.size_push,Ě];omega
 have:=key l ByteArray.empty;unfold bytesOf;rw[this];simp
theorem YW(k:Zb):ý k≠ByteArray.empty:=λe=>by
 have a:=RT (gW k);have h2:(ý k).size=0:=by rw[e];rfl
 unfold ý at h2;rw[a]at h2;have:1<=(lz k.n).length:=by unfold lz fw iH;split<;>simp
 unfold gW at h2;simp only[Ā]at h2;omega
theorem RU{k:Zb}(h:æ k){π:M}(a:gD k.n.toNat π){s:Zb×M×Ĳ}:
  (sc k π s).Α (if s.2.2=ByteArray.empty then(ÿ k π,π,ý (ÿ k π))else if Op.bytesLess (ý (ÿ k π)).toList s.2.2.toList=true then(ÿ k π,π,ý (ÿ k π))else s):=by
 have e:=h.eqs.len
 have f:=h.ε.len
 have hp:=lW h a
 refine⟨_,QR ŉ (λp hp=>(h.eqs.ia p hp).1) a.perm,_,QR ŉ (λp hp=>(h.ε.ia p hp).1) a.perm,(ÿ k π,0),?_,Cq.wp.no (λh=>h rfl) ⟨_,zg hp.core,?_⟩⟩
 .rw[<-hp.norm]
  refine Ztp (by rw[ć];omega) (by rw[ć];omega) (λp hp=>?_) (λp hp=>?_)
  .obtain⟨q,d,rfl⟩:=Ğ.1 hp
   exact oF a.perm (h.eqs.ia q d).1
  obtain⟨q,d,rfl⟩:=Ğ.1 hp
  exact oF a.perm (h.ε.ia q d).1
 by_cases c:s.2.2=ByteArray.empty
 .rw[ą c];exact Cq.wp.yes c rfl
 rw[ā c]
 refine Cq.wp.no c ?_
 by_cases h2:Op.bytesLess (ý (ÿ k π)).toList s.2.2.toList=true
 .refine Cq.wp.yes h2 ?_
  show _=_
  rw[ą h2]
 refine Cq.wp.no h2 ?_
 show _=_
 rw[ā h2]
theorem Ko{k:Zb}(h:æ k):∀{l:Ŀ M}{c:Zb}{f:M},(∀π∈l,gD k.n.toNat π)->(nj k l (c,f,ý c)).Α ((fm k l (c,f)).1,(fm k l (c,f)).2,ý (fm k l (c,f)).1)
 |[],_,_,_=>rfl
 |π::l,c,f,a=>by
  refine⟨_,RU h (a π ß),?_⟩;dsimp only;rw[ā (YW c)];unfold fm;split
  .exact Ko h (λx d=>a x (by simp[d]))
  exact Ko h (λx d=>a x (by simp[d]))
theorem lX{k:Zb}(h:æ k):∀π∈Δ k.n.toNat,gD k.n.toNat π:=λ_ hp=>oi (by have:=h.n;omega) hp
theorem S1{k:Zb}(h:æ k):(Ew k).Α (â k):=by refine⟨h.n,((â k).1,(â k).2,ý (â k).1),?_,rfl⟩;have hp:=lX h;rw[vw]at hp⊢;refine⟨_,RU h (hp _ ß),?_⟩;rw[ą rfl];exact Ko h (λx a=>hp x (by simp[a]))
theorem ZuZ{k:Zb}(h:æ k):(Lg k).Α (â k):=by
 have hp:=lX h;obtain⟨n,t,y,A⟩:=vI h.n;have c:k.n.toNat=n:=ŉ;have a:(Δ n).length<=24:=by
  have e:n=1\/n=2\/n=3\/n=4:=ŉ;rcases e with rfl|rfl|rfl|rfl<;>decide +kernel
 unfold â;rw[c]at hp⊢;refine⟨Δ n,by rw[t];exact Zv0 ⟨y,A⟩,?_⟩;rw[vw]at hp a⊢;generalize (Δ n).tail=l at *;generalize q:(λi:Fin 8=>(i.val:Int))=ι at *;rw[Ě]at a;refine⟨ι,⟨ĳ,rfl⟩,_,Qd h (by rw[c];exact hp ι ß),ι,⟨ĳ,rfl⟩,?_⟩;have u:æ (ÿ k ι):=(lW h (by rw[c];exact hp ι ß)).core;refine Cq.Zn l.length (λj s=>s=(((j+1:Nat):Int),(fm k (l.take j) (ÿ k ι,ι)).1,(fm k (l.take j) (ÿ k ι,ι)).2)) (λj s r ov=>?_) (λs ov=>?_) rfl
 .subst ov;have g:gD k.n.toNat l[j]:=by rw[c];exact hp _ ß
  have p:æ (fm k (l.take j) (ÿ k ι,ι)).1:=Ml h (λx v=>by rw[c];exact hp x (by simp[Ŝ v])) u;have d:j+1<(ι::l).length:=by rw[Ě];omega
  have e:(ι::l)[j+1]=l[j]:=rfl;refine Cq.wp.yes (by rw[Ě];omega) ⟨_,Ξ d,_,by rw[e];exact Qd h g,_,TM (lW h g).core,_,TM p,?_⟩;have m:i64.wrap (((j+1:Nat):Int)+1)=((j+1+1:Nat):Int):=ψ ŉ;rw[č r,SD];by_cases f:Op.bytesLess (ý (ÿ k l[j])).toList (ý (fm k (l.take j) (ÿ k ι,ι)).1).toList=true
  .rw[ą f];refine Cq.wp.yes f ⟨_,Ξ d,?_⟩;show _=_;rw[m];rfl
  rw[ā f];refine Cq.wp.no f ?_;show _=_;rw[m]
 subst ov;refine Cq.wp.no (by rw[Ě];omega) ?_;rw[ě (ĉ _)];rfl
end Go.EL

namespace Go.EL
open Go.IntKind (i8 i16 i32 i64 u8 u16 u32 u64)
open Go Go.RowKit
def k0{α:Type}(S:α->Prop)(w:α->Ŀ Int):Prop:=∀a b x y,S a->S b->w a++x=w b++y->w a=w b/\x=y
theorem k0.both{α:Type}{S:α->Prop}{f g:α->Ŀ Int}(j:k0 S f)(k:k0 S g):k0 S λa=>f a++g a:=λa b x y c d h=>by have h:(f a++g a)++x=(f b++g b)++y:=h;show f a++g a=f b++g b/\_;rw[Đ,Đ]at h;obtain⟨e,h2⟩:=j a b _ _ c d h;obtain⟨h3,i⟩:=k a b _ _ c d h2;exact⟨by rw[e,h3],i⟩
theorem k0.of{α β:Type}{S:α->Prop}{T:β->Prop}{w:β->Ŀ Int}(h:k0 T w)(g:α->β)(c:∀a,S a->T (g a)):k0 S λa=>w (g a):=λa b x y d f e=>h _ _ x y (c a d) (c b f) e
theorem k0.len{α:Type}{S:α->Prop}{w:α->Ŀ Int}(k:Nat)(h:∀a,S a->(w a).length=k):k0 S w:=λa b _ _ c d e=>List.append_inj e (by rw[h a c,h b d])
theorem HV(n:Int):u8.wrap n=n % 256:=rfl
theorem Tl:∀(f:Nat) {n m:Int}{x y:Ŀ Int},(0<=n/\n<128*128 ^ f/\n<18446744073709551616)->(0<=m/\m<128*128 ^ f/\m<18446744073709551616)->iH f n++x=iH f m++y->n=m/\x=y
 |0,n,m,x,y,c,a,h=>by simp only[iH,ĸ,ļ,Ő,HV]at h;have:(128:Int)*128 ^ 0=128:=rfl;exact⟨ŉ,h.2⟩
 |f+1,n,m,x,y,c,a,h=>by
  have hp:(128:Int)*128 ^ (f+1)=128*(128*128 ^ f):=by rw[Int.pow_succ];omega
  have key:∀{z:Int},(0<=z/\z<128*128 ^ (f+1)/\z<18446744073709551616)->u64.wrap (Int.tdiv z 128)=z / 128/\Int.tmod z 128=z % 128:=λ{z} d=>by obtain⟨d0,d1⟩:=qA d.1;exact⟨by rw[d1];exact qJ ⟨ŉ,ŉ⟩,ŕ d.1⟩
  obtain⟨i,j⟩:=key c;obtain⟨e,g⟩:=key a;unfold iH at h;rw[i,j,e,g]at h;simp only[HV]at h;split at h
  .split at h
   .simp only[ĸ,Ő]at h;obtain⟨k,h2⟩:=Tl f (n:=n / 128) (m:=m / 128) ⟨ŉ,ŉ,ŉ⟩ ⟨ŉ,ŉ,ŉ⟩ h.2;exact⟨ŉ,h2⟩
   simp only[ĸ,ļ,Ő]at h;omega
  split at h
  .simp only[ĸ,ļ,Ő]at h;omega
  simp only[ĸ,ļ,Ő]at h;exact⟨ŉ,h.2⟩
theorem LS{n m:Int}{x y:Ŀ Int}(c:0<=n/\n<18446744073709551616)(a:0<=m/\m<18446744073709551616)(h:fw n++x=fw m++y):n=m/\x=y:=by have:(128:Int)*128 ^ 10=151115727451828646838272:=ĳ;exact Tl 10 ⟨c.1,ŉ,c.2⟩ ⟨a.1,ŉ,a.2⟩ h
theorem pg(n:Int):0<=u64.wrap n/\u64.wrap n<18446744073709551616:=by rw[abr];omega
theorem Vg{α:Type}(S:α->Prop)(g:α->Int):k0 S λa=>fw (u64.wrap (g a)):=λa b x y _ _ h=>by obtain⟨c,h2⟩:=LS (pg _) (pg _) h;exact⟨by show fw _=fw _;rw[c],h2⟩
theorem Lu{α:Type}{S:α->Prop}{w:α->Ŀ Int}(h:k0 S w):∀{l m:Ŀ α}{x y:Ŀ Int},l.length=m.length->(∀a∈l,S a)->(∀a∈m,S a)->l.flatMap w++x=m.flatMap w++y->l.flatMap w=m.flatMap w/\x=y
 |[],[],_,_,_,_,_,e=>⟨rfl,e⟩
 |[],_::_,_,_,d,_,_,_=>by cases d
 |_::_,[],_,_,d,_,_,_=>by cases d
 |a::l,b::m,x,y,d,g,h2,e=>by rw[ř,ř,Đ,Đ]at e;obtain⟨i,j⟩:=h a b _ _ (g a ß) (h2 b ß) e;obtain⟨k,q4⟩:=Lu h (l:=l) (m:=m) (by simpa using d) (λc f=>g c (by simp[f])) (λc f=>h2 c (by simp[f])) j;exact⟨by rw[ř,ř,i,k],q4⟩
theorem TF{α:Type}{S:α->Prop}{w:α->Ŀ Int}(h:k0 S w):k0 (λl:Ŀ α=>l.length<=1000000/\∀a∈l,S a) λl=>fw (u64.wrap (l.length:Int))++l.flatMap w:=λl m x y d f e=>by have e:(fw (u64.wrap (l.length:Int))++l.flatMap w)++x=(fw (u64.wrap (m.length:Int))++m.flatMap w)++y:=e;show fw _++_=fw _++_/\_;rw[Đ,Đ]at e;obtain⟨c,h2⟩:=LS (pg _) (pg _) e;rw[xK d.1,xK f.1]at c;have c:l.length=m.length:=ŉ;obtain⟨h3,g⟩:=Lu h c d.2 f.2 h2;exact⟨by rw[c,h3],g⟩
theorem U8:k0 (λa:Zg=>a.χ.length<=1000000) lx:=λa b x y j k e=>by
 unfold lx at e⊢;rw[Đ,Đ]at e;have g:∀c:Zg,c.χ.length<=1000000->(if c.neg=true then u64.wrap (u64.wrap (2*u64.wrap (c.χ.length:Int))+1)else u64.wrap (2*u64.wrap (c.χ.length:Int)))=2*(c.χ.length:Int)+if c.neg=true then 1 else 0:=λc l=>by rw[xK l,qJ (x:=2*(c.χ.length:Int)) ⟨ŉ,ŉ⟩,qJ (x:=2*(c.χ.length:Int)+1) ⟨ŉ,ŉ⟩];split<;>omega
 rw[g a j,g b k]at e⊢;obtain⟨f,h2⟩:=LS (by split<;>omega) (by split<;>omega) e;have h3:a.χ.length=b.χ.length:=by split at f<;>split at f<;>omega
 obtain⟨h,i⟩:=Lu (S:=λ_=>True) (k0.len 4 λd _=>Lp d) h3 (λ_ _=>trivial) (λ_ _=>trivial) h2;exact⟨by rw[f,h],i⟩
theorem Zz9:k0 (λa:Zf=>a.num.χ.length<=1000000/\a.den.χ.length<=1000000) mG:=k0.both (U8.of _ λa h=>h.1) (U8.of _ λa h=>h.2)
theorem Vd(S:(Fin 8->Int)->Prop):∀k,k0 S λm=>iG m k
 |0=>λ_ _ _ _ _ _ e=>⟨rfl,e⟩
 |k+1=>k0.both (Vd S k) (Vg S _)
theorem ZyR:k0 (λt:Za=>t.c.num.χ.length<=1000000/\t.c.den.χ.length<=1000000) fU:=k0.both (Zz9.of _ λa h=>h) ((Vd (λ_=>True) 8).of _ λa _=>trivial)
theorem ω.code{p:Ú}(h:ω p):p.length<=1000000/\∀t∈p,t.c.num.χ.length<=1000000/\t.c.den.χ.length<=1000000:=⟨by have:=h.len;omega,λt c=>by
 obtain⟨a,e,d,h2,h3⟩:=(h.ts t c).c;have f:t.c.num.χ.length<=1/\t.c.den.χ.length<=1:=by
  have:(á (-12) 12 λa=>decide ((þ a).num.χ.length<=1/\(þ a).den.χ.length<=1))=true:=by decide +kernel
  rw[e];exact ĥ (Zq this (x:=a) ŉ ŉ)
 omega⟩
theorem Zyw:k0 ω fE:=λa b x y c d e=>TF ZyR a b x y c.code d.code e
theorem Sm:k0 (λl:Ŀ Ú=>l.length<=1000000/\∀p∈l,ω p) fR:=TF Zyw
theorem æ.code{k:Zb}(h:æ k):(k.eqs.length<=1000000/\∀p∈k.eqs,ω p)/\k.ε.length<=1000000/\∀p∈k.ε,ω p:=
 ⟨⟨by have:=h.eqs.len;omega,λp hp=>(h.eqs.ia p hp).1⟩,by have:=h.ε.len;omega,λp hp=>(h.ε.ia p hp).1⟩
theorem Zx6:k0 æ gW:=k0.both (k0.both (Vg _ _) (Sm.of _ λa h=>h.code.1)) (Sm.of _ λa h=>h.code.2)
def mj(l:Ŀ Int):Prop:=∀n∈l,0<=n/\n<256
theorem mj.append{a b:Ŀ Int}(h:mj a)(k:mj b):mj (a++b):=λn c=>(Ĩ.1 c).elim (h n) (k n)
theorem HU(n:Int):0<=u8.wrap n/\u8.wrap n<256:=by rw[HV];omega
theorem ud:∀(f:Nat) (n:Int),mj (iH f n)
 |0,n=>λm a=>by rw[Ĕ.1 a];exact HU _
 |f+1,n=>λm a=>by
  unfold iH at a;split at a
  .rcases Ď.1 a with rfl|a
   .exact HU _
   exact ud f _ m a
  rw[Ĕ.1 a];exact HU _
theorem F2{α:Type}{w:α->Ŀ Int}(h:∀a,mj (w a))(l:Ŀ α):mj (l.flatMap w):=λn c=>by obtain⟨a,_,h2⟩:=List.mem_flatMap.1 c;exact h a n h2
theorem ZxH(d:Int):mj (fF d):=λn a=>by
 simp only[fF,Ď,ĝ,ţ]at a;rcases a with rfl|rfl|rfl|rfl<;>exact HU _
theorem TB(a:Zg):mj (lx a):=(ud _ _).append (F2 ZxH _)
theorem Tj(m:Fin 8->Int):∀k,mj (iG m k)
 |0=>λ_ h=>by cases h
 |k+1=>(Tj m k).append (ud _ _)
theorem Zxz(t:Za):mj (fU t):=((TB _).append (TB _)).append (Tj _ 8)
theorem S0(p:Ú):mj (fE p):=(ud _ _).append (F2 Zxz _)
theorem Sb(l:Ŀ Ú):mj (fR l):=(ud _ _).append (F2 S0 _)
theorem SK(k:Zb):mj (gW k):=((ud _ _).append (Sb _)).append (Sb _)
theorem Zvc(l:Ŀ Int):∀r:Ĳ,(l.foldl (λr n=>r.push (UInt8.ofNat n.toNat)) r).data.toList=r.data.toList++l.map λn=>UInt8.ofNat n.toNat:=by
 induction l with
 |nil=>intro r;simp
 |cons n l a=>
  intro r;rw[List.foldl_cons,a];simp[ByteArray.push]
theorem AP(l:Ŀ Int):(bytesOf l).data.toList=l.map λn=>UInt8.ofNat n.toNat:=by unfold bytesOf;rw[Zvc];rfl
theorem UH:∀{l m:Ŀ Int},mj l->mj m->(l.map λn=>UInt8.ofNat n.toNat)=(m.map λn=>UInt8.ofNat n.toNat)->l=m
 |[],[],_,_,_=>rfl
 |[],_::_,_,_,h=>by cases h
 |_::_,[],_,_,h=>by cases h
 |a::l,b::m,d,h2,h=>by rw[ġ,ġ,Ő]at h;have e:=đ UInt8.toNat h.1;rw[UInt8.toNat_ofNat',UInt8.toNat_ofNat']at e;have f:=d a ß;have k2:=h2 b ß;rw[UH (λn c=>d n (by simp[c])) (λn c=>h2 n (by simp[c])) h.2];congr 1;omega
theorem Zts{l m:Ŀ Int}(a:mj l)(h2:mj m)(h:bytesOf l=bytesOf m):l=m:=by refine UH a h2 ?_;rw[<-AP,<-AP,h]
theorem Zwd{a b:Ĳ}(h:a.data.toList=b.data.toList):a=b:=by cases a;cases b;have h:=Ż h;dsimp only at h;rw[h]
theorem JJ(l m:Ŀ Int):bytesOf l++bytesOf m=bytesOf (l++m):=by refine Zwd ?_;rw[AP,Ī,<-AP,<-AP];simp
end Go.EL

namespace Go.EL
open Go.IntKind (i8 i16 i32 i64 u8 u16 u32 u64)
open Go Go.RowKit
def C8(p:Ú):Bool:=decide (p.Pairwise λx y=>0<Ü x.m y.m)&&p.all (λt=>fp t.c&&decide (∀i,0<=t.m i/\t.m i<=65535))&&decide (p.length<=100)
theorem ω.of{p:Ú}(h:C8 p=true):ω p:=by unfold C8 at h;simp only[Ĉ,Ę,Ć]at h;obtain⟨⟨c,h2⟩,h3⟩:=h;refine⟨c,λt a=>⟨?_,(h2 t a).2⟩,h3⟩;obtain⟨n,e,d,f,g⟩:=ub (h2 t a).1;exact⟨n,e,d,f,g⟩
end Go.EL

namespace Go.EL
open Go.IntKind (i8 i16 i32 i64 u8 u16 u32 u64)
open Go Go.RowKit
theorem UN{c:Cq Bool}{P:Prop}(h:c.wp λb=>(b=true↔P)):(P/\c.Α true)\/(¬P/\c.Α false):=by
 by_cases hp:P
 .exact .inl ⟨hp,c.mono (λb a=>a.2 hp) h⟩
 exact .inr ⟨hp,c.mono (λb a=>by cases b with
  |true=>exact absurd (a.1 rfl) hp
  |false=>rfl) h⟩
structure ve (n:Nat) (next:Int) (l:Ŀ Zo) (k:Nat):Prop where
 ids:∀i (h:i<l.length),i<k->1<=l[i].id/\l[i].id<next
 inc:∀i (h:i+1<l.length),i+1<k->l[i].id<l[i+1].id
 ia:∀i (h:i<l.length),i<k->ω l[i].p/\Ñ l[i].p (n:Int)=true
theorem ve.zero(n:Nat)(next:Int)(l:Ŀ Zo):ve n next l 0:=⟨λ_ _ h=>absurd h (ı _),λ_ _ h=>absurd h (ı _),λ_ _ h=>absurd h (ı _)⟩
end Go.EL

namespace Go.EL
open Go.IntKind (i8 i16 i32 i64 u8 u16 u32 u64)
open Go Go.RowKit
end Go.EL

namespace Go.EL
open Go.IntKind (i8 i16 i32 i64 u8 u16 u32 u64)
open Go Go.RowKit
theorem Vh(n:Nat)(next:Int):ig n next []:=⟨ß,λq a=>absurd a ĝ,List.Pairwise.nil,λq a=>absurd a ĝ⟩
end Go.EL

namespace Go.EL
open Go.IntKind (i8 i16 i32 i64 u8 u16 u32 u64)
open Go Go.RowKit
structure ij (x:ZA):Prop where
 n:0<=x.n/\x.n<=255
 l:∀y∈x.l,jg y
 il:∀g∈x.il,0<=g/\g<=255
theorem LQ{y:Zu}(h:jg y){n:Nat}(e:n<=4){d:Int}(d0:0<=d)(d12:d<=12){k:Nat}(f:k<=4):ω (iF y n d k)/\Ñ (iF y n d k) (n:Int)=true:=by
 have a:=Zyk h e d0 k;refine⟨a.ia ŉ ŉ ŉ,(pC ŉ).2 ⟨λt c i hi=>?_,λt c=>?_⟩⟩
 .have:=(a.yg t c).2.1 i hi;omega
 have:=(a.yg t c).2.2;omega
theorem ig.XU{n:Nat}{next a:Int}{l:Ŀ Zo}(h:ig n next l)(h2:next<=a):ig n a l:=⟨h.len,λq c=>⟨(h.ids q c).1,œ (h.ids q c).2 h2⟩,h.inc,h.ia⟩
theorem ig.snoc{n:Nat}{next:Int}{l:Ŀ Zo}(h:ig n next l)(g:l.length<12){i:Int}{p:Ú}(hp:ω p/\Ñ p (n:Int)=true)(f:1<=next)(hi:next<=i):ig n (i+1) (l++[⟨i,p⟩]) where
 len:=by rw[Ā,ė];omega
 ids:=λq c=>by
  rcases Ĩ.1 c with c|c
  .have:=h.ids q c;omega
  rw[Ĕ]at c;subst c;show 1<=i/\i<i+1;omega
 inc:=by rw[eu];refine⟨h.inc,Ū _ _,λa e b d=>?_⟩;rw[Ĕ]at d;subst d;have:=h.ids a e;show a.id<i;omega
 ia:=λq c=>by
  rcases Ĩ.1 c with c|c
  .exact h.ia q c
  rw[Ĕ]at c;subst c;exact hp
def eK(x:ZA)(k:Nat):Int:=if 0<x.il.length then Int.tmod (x.il.getD (k % x.il.length) 0) 4 else 0
def ó(x:ZA)(n:Nat):Nat->Ŀ Zo×Ŀ Zo×Int
 |0=>([],[],1)
 |k+1=>
  if k % 3=2 then((ó x n k).1,(ó x n k).2.1++[⟨(ó x n k).2.2+eK x k,iF (x.l.getD k ⟨[]⟩) n 2 3⟩],(ó x n k).2.2+eK x k+1)
  else((ó x n k).1++[⟨(ó x n k).2.2+eK x k,iF (x.l.getD k ⟨[]⟩) n 2 3⟩],(ó x n k).2.1,(ó x n k).2.2+eK x k+1)
theorem Ztz(x:ZA)(n k:Nat):ó x n (k+1) =
  if k % 3=2 then((ó x n k).1,(ó x n k).2.1++[⟨(ó x n k).2.2+eK x k,iF (x.l.getD k ⟨[]⟩) n 2 3⟩],(ó x n k).2.2+eK x k+1)
  else((ó x n k).1++[⟨(ó x n k).2.2+eK x k,iF (x.l.getD k ⟨[]⟩) n 2 3⟩],(ó x n k).2.1,(ó x n k).2.2+eK x k+1):=rfl
theorem VE{x:ZA}(h:ij x)(k:Nat):0<=eK x k/\eK x k<=3:=by
 unfold eK;split
 .rename_i hp;have a:k % x.il.length<x.il.length:=x8 _ hp;have c:=h.il (x.il[k % x.il.length]) (ă a);rw[Ģ,Ą a,Ř];have:=Bq c.1 (show(0:Int)<4 by decide);omega
 omega
structure Aj (n:Nat) (k:Nat) (s:Ŀ Zo×Ŀ Zo×Int):Prop where
 next:1<=s.2.2/\s.2.2<=1+4*k
 eqs:ig n s.2.2 s.1
 ε:ig n s.2.2 s.2.1
 apart:∀a∈s.1,∀b∈s.2.1,a.id≠b.id
 len:s.1.length+s.2.1.length<=k
theorem ZyF{x:ZA}(h:ij x)(k:Nat):jg (x.l.getD k ⟨[]⟩):=by
 rw[Ģ];cases a:x.l[k]? with
 |none=>exact λv c=>by cases c
 |some y=>exact h.l y (ń a)
theorem KV{x:ZA}(h:ij x){n:Nat}(j:n<=4):∀k,k<=6->Aj n k (ó x n k)
 |0,_=>⟨⟨Ō 1,(by decide:(1:Int)<=1+4*0)⟩,Vh _ _,Vh _ _,λa c=>absurd c ĝ,ĉ 0⟩
 |k+1,q=>by
  have f:=KV h j k ŉ;obtain⟨m,p⟩:=VE h k;have hp:=LQ (ZyF h k) j (d:=2) ĳ ĳ (k:=3) ĳ;have l:=f.next;have r:=f.len;unfold ó;generalize ó x n k=s at *;obtain⟨e,i,nx⟩:=s;dsimp only at *;by_cases h3:k % 3=2
  .rw[ą h3];refine⟨⟨by show 1<=nx+eK x k+1;omega,by show nx+eK x k+1<=_;omega⟩,f.eqs.XU (by show nx<=nx+eK x k+1;omega),f.ε.snoc (by show i.length<12;omega) hp (by show 1<=nx;omega) (by show nx<=nx+eK x k;omega),λa c b g=>?_,by show e.length+(i++[_]).length<=k+1;rw[Ā,ė];omega⟩;rcases Ĩ.1 g with g|g
   .exact f.apart a c b g
   rw[Ĕ]at g;subst g;have:=(f.eqs.ids a c).2;show a.id≠nx+eK x k;dsimp only at this;omega
  rw[ā h3];refine⟨⟨by show 1<=nx+eK x k+1;omega,by show nx+eK x k+1<=_;omega⟩,f.eqs.snoc (by show e.length<12;omega) hp (by show 1<=nx;omega) (by show nx<=nx+eK x k;omega),f.ε.XU (by show nx<=nx+eK x k+1;omega),λa c b g=>?_,by show(e++[_]).length+i.length<=k+1;rw[Ā,ė];omega⟩;rcases Ĩ.1 c with c|c
  .exact f.apart a c b g
  rw[Ĕ]at c;subst c;have:=(f.ε.ids b g).2;show nx+eK x k≠b.id;dsimp only at this;omega
def gk:Ŀ Ĳ:=[AJ,AI,AH]
theorem Zvz:(gk.all jm&&decide (gk.Pairwise λa b=>a≠b))=true:=by decide +kernel
def jv(x:ZA):Nat:=x.n.toNat % 4
def jb(x:ZA):Zx:=⟨gk.take (jv x),(ó x (jv x) (min x.l.length 6)).1,(ó x (jv x) (min x.l.length 6)).2.1,(ó x (jv x) (min x.l.length 6)).2.2⟩
theorem Bv(x:ZA):jv x<4:=x8 _ ĳ
theorem Ft(x:ZA):(gk.take (jv x)).length=jv x:=by have:=Bv x;rw[Č];show min _ 3=_;omega
theorem Zvv{x:ZA}(h:ij x):Good (jb x)/\(jb x).eqs.length+(jb x).ε.length<=6:=by
 have f:=Bv x;have hi:=KV h (n:=jv x) ŉ (min x.l.length 6) ŉ;have a:=Zvz;simp only[Ĉ,Ć,Ę]at a;have e:=hi.len;have d:=hi.next;refine⟨⟨by show(gk.take _).length<=4;rw[Ft];omega,λv c=>a.1 v (Ŝ c),a.2.sublist (List.take_sublist _ _),⟨d.1,?_⟩,?_,?_,hi.apart⟩,?_⟩
 .show (ó x (jv x) (min x.l.length 6)).2.2<=1000000;omega
 .show ig (gk.take _).length _ _;rw[Ft];exact hi.eqs
 .show ig (gk.take _).length _ _;rw[Ft];exact hi.ε
 show(ó x (jv x) (min x.l.length 6)).1.length+(ó x (jv x) (min x.l.length 6)).2.1.length<=6;omega
theorem tp{x:ZA}(h:ij x):i64.wrap (Int.tmod x.n 4)=((jv x:Nat):Int):=by
 obtain⟨a,c⟩:=h.n;have e:Int.tmod x.n 4=((jv x:Nat):Int):=by rw[ŕ a];unfold jv;omega
 have:=Bv x;rw[e,wrap64 ŉ]
theorem ZuN{x:ZA}(h:ij x):(FX x).Α (jb x):=by
 have C:=Bv x;unfold FX;rw[tp h];refine⟨⟨Ō 0,ŉ,by show((jv x:Nat):Int)<=3;omega⟩,?_⟩;have g:∀s:Ŀ Zo×Ŀ Zo×Int,s=ó x (jv x) (min x.l.length 6)->(Ka ((gk.take ((jv x:Nat):Int).toNat).drop (0:Int).toNat) s.1 s.2.1 s.2.2).Α (jb x):=λs m=>by subst m;show _=_;rw[ē];rfl
 refine Cq.Zn (min x.l.length 6) (λk s=>s=((k:Int),(gk.take ((jv x:Nat):Int).toNat).drop (0:Int).toNat,(ó x (jv x) k).1,(ó x (jv x) k).2.1,(ó x (jv x) k).2.2)) (λk s B m=>?_) (λs m=>?_) rfl
 .subst m;have hi:=KV h (n:=jv x) ŉ k ŉ;have i:k<x.l.length:=ŉ;have D:=hi.next;have v:=hi.len;obtain⟨y,A⟩:=VE h k;refine Cq.wp.yes ŉ (Cq.wp.yes ŉ ?_);have key:(EU x (k:Int) ((gk.take ((jv x:Nat):Int).toNat).drop (0:Int).toNat) (ó x (jv x) k).1 (ó x (jv x) k).2.1 (ó x (jv x) k).2.2 (eK x k)).wp (Out (λs=>s=(((k+1:Nat):Int),(gk.take ((jv x:Nat):Int).toNat).drop (0:Int).toNat,(ó x (jv x) (k+1)).1,(ó x (jv x) (k+1)).2.1,(ó x (jv x) (k+1)).2.2)) λo=>(match o with|(e,f,c,d)=>Ka e f c d).wp λa=>a=jb x):=by
   refine⟨_,Ξ i,iF x.l[k] (jv x) 2 3,?_,?_⟩
   .rw[tp h];exact Ly (h.l _ (ă i)) ŉ ĳ ĳ (k:=3) ĳ
   have t:x.l.getD k ⟨[]⟩=x.l[k]:=by rw[Ģ,Ą i];rfl
   have u:i64.wrap ((ó x (jv x) k).2.2+eK x k)=(ó x (jv x) k).2.2+eK x k:=wrap64 ŉ;have j:i64.wrap ((ó x (jv x) k).2.2+eK x k+1)=(ó x (jv x) k).2.2+eK x k+1:=wrap64 ŉ;have p:Int.tmod (k:Int) 3=((k % 3:Nat):Int):=by rw[ŕ ŉ];omega
   rw[Ztz];by_cases h3:k % 3=2
   .rw[ą h3];refine Cq.wp.yes (by rw[p];omega) ⟨?_,?_⟩
    .rw[Ā,ė];simp only[small];omega
    show _=_;rw[ψ ŉ,u,j,t]
   rw[ā h3];refine Cq.wp.no (by rw[p];omega) ⟨?_,?_⟩
   .rw[Ā,ė];simp only[small];omega
   show _=_;rw[ψ ŉ,u,j,t]
  show(EV x (k:Int) _ _ _ _).wp _;unfold EV;by_cases r:0<x.il.length
  .have l:k % x.il.length<x.il.length:=x8 _ r;have p:Int.tmod (k:Int) (x.il.length:Int)=((k % x.il.length:Nat):Int):=by rw[ŕ ŉ];rfl
   refine Cq.wp.yes ŉ ⟨ŉ,?_⟩;rw[p];refine⟨_,Ξ l,?_⟩;have q:eK x k=Int.tmod x.il[k % x.il.length] 4:=by unfold eK;rw[ą r,Ģ,Ą l,Ř]
   dsimp only;rw[<-q,wrap64 ŉ];exact key
  have q:eK x k=0:=ā r;refine Cq.wp.no ŉ ?_;rw[q]at key;exact key
 subst m;by_cases v:x.l.length<=6
 .refine Cq.wp.no ŉ ?_;exact g _ rfl
 refine Cq.wp.yes ŉ (Cq.wp.no ŉ ?_);exact g _ rfl
end Go.EL

namespace Go.EL
open Go.IntKind (i8 i16 i32 i64 u8 u16 u32 u64)
open Go Go.RowKit
structure jS (k:Zb):Prop where
 n:0<=k.n/\k.n<=1000
 eqs:∀p∈k.eqs,ω p
 ε:∀p∈k.ε,ω p
 len:k.eqs.length<=12/\k.ε.length<=12
theorem jS.zero:jS iL:=⟨ĳ,λp hp=>absurd hp ĝ,λp hp=>absurd hp ĝ,ĳ⟩
theorem æ.tx{k:Zb}(h:æ k):jS k:=⟨by have:=h.n;omega,λp hp=>(h.eqs.ia p hp).1,λp hp=>(h.ε.ia p hp).1,h.eqs.len,h.ε.len⟩
theorem jS.core{k:Zb}(h:jS k):(vx [] k).Α (gW k):=S6 h.n h.eqs h.ε h.len.1 h.len.2
theorem ZvA{n:Int}{eqs ε:Ŀ Ú}(f:∀p∈eqs,ω p)(hi:∀p∈ε,ω p):jS (iq n eqs ε).1/\((iq n eqs ε).2=0->æ (iq n eqs ε).1):=by
 unfold iq;by_cases c:1<=n/\n<=4
 .rw[ą c];by_cases a:(eqs++ε).all (λp=>Ñ p n)=true
  .rw[ą a];by_cases d:12<(ep (hQ eqs ε)).length
   .rw[ą d];exact⟨jS.zero,λh=>absurd h ĳ⟩
   rw[ā d];by_cases h2:12<(ep (kept ε true)).length
   .rw[ą h2];exact⟨jS.zero,λh=>absurd h ĳ⟩
   rw[ā h2];obtain⟨m,rfl,g,i⟩:=vI c;rw[List.all_append,Ĉ]at a;have e:=Up ⟨g,i⟩ (λp hp=>⟨f p hp,Ć.1 a.1 p hp⟩) (λp hp=>⟨hi p hp,Ć.1 a.2 p hp⟩) ŉ ŉ;exact⟨e.tx,λ_=>e⟩
  rw[ā a];exact⟨jS.zero,λh=>absurd h ĳ⟩
 rw[ā c];exact⟨jS.zero,λh=>absurd h ĳ⟩
theorem S2{l:Ŀ Zo}(d:l.length<=1000):(FJ l).Α (l.map (·.p)):=by
 refine Cq.Zn l.length (λk s=>s=((l.take k).map (·.p),(k:Int))) (λk s c a=>?_) (λs a=>?_) rfl
 .subst a;refine Cq.wp.yes ŉ ⟨_,Ξ c,?_,?_⟩
  .simp only[Ā,ć,Č,ė,small];omega
  show _=_;rw[ψ ŉ,č c,Ī];rfl
 subst a;refine Cq.wp.no ŉ ?_;rw[ě (ĉ _)];exact rfl
def pk(s:Zx):Int:=if 1<(s.vars.length:Int)then(s.vars.length:Int)else 1
def mW(s:Zx):Zb×Int:=iq (pk s) (s.eqs.map (·.p)) (s.ε.map (·.p))
theorem Good.wu{s:Zx}(h:Good s):(∀p∈s.eqs.map (·.p),ω p)/\∀p∈s.ε.map (·.p),ω p:=
 ⟨λp hp=>by obtain⟨q,a,rfl⟩:=Ğ.1 hp;exact(h.eqs.ia q a).1,λp hp=>by obtain⟨q,a,rfl⟩:=Ğ.1 hp;exact(h.ε.ia q a).1⟩
theorem Zu0{s:Zx}(h:Good s):(LC s).Α (mW s):=by have a:=h.eqs.len;have c:=h.ε.len;obtain⟨p1,p2⟩:=h.wu;exact⟨true,Zpx h,Cq.wp.no ĳ ⟨_,S2 ŉ,_,S2 ŉ,_,Rh (by rw[ć];omega) (by rw[ć];omega) p1 p2,rfl⟩⟩
theorem VD{p:Ú}{n m:Nat}(e:n<=m)(c:m<=8)(h:Ñ p (n:Int)=true):Ñ p (m:Int)=true:=by obtain⟨a,h2⟩:=(pC ŉ).1 h;exact(pC c).2 ⟨λt d i hi=>a t d i ŉ,h2⟩
theorem Zx5{s:Zx}(h:Good s)(i:s.eqs.length+s.ε.length<=12):mW s=(⟨pk s,ep (hQ (s.eqs.map (·.p)) (s.ε.map (·.p))),ep (kept (s.ε.map (·.p)) true)⟩,0)/\æ (mW s).1:=by
 have j:=h.vars;obtain⟨m,f,k,l,mv⟩:∃m:Nat,pk s=(m:Int)/\1<=m/\m<=4/\s.vars.length<=m:=by
  unfold pk;by_cases c:1<(s.vars.length:Int)
  .rw[ą c];exact⟨_,rfl,ŉ,ŉ,ĉ _⟩
  rw[ā c];exact⟨1,rfl,ŉ,ŉ,ŉ⟩
 have d:(s.eqs.map (·.p)++s.ε.map (·.p)).all (λp=>Ñ p (m:Int))=true:=Ć.2 λp hp=>by
  rcases Ĩ.1 hp with hp|hp
  .obtain⟨q,a,rfl⟩:=Ğ.1 hp;exact VD mv ŉ (h.eqs.ia q a).2
  obtain⟨q,a,rfl⟩:=Ğ.1 hp;exact VD mv ŉ (h.ε.ia q a).2
 have n:=Gq (hQ (s.eqs.map (·.p)) (s.ε.map (·.p)));have g:=TZ (s.eqs.map (·.p)) (s.ε.map (·.p));have r:=Gq (kept (s.ε.map (·.p)) true);have q4:=vA (s.ε.map (·.p)) true;rw[ć,ć]at g;rw[ć]at q4;have e:mW s=(⟨pk s,ep (hQ (s.eqs.map (·.p)) (s.ε.map (·.p))),ep (kept (s.ε.map (·.p)) true)⟩,0):=by unfold mW iq;rw[f,ą ⟨ŉ,ŉ⟩,ą d,ā ŉ,ā ŉ]
 obtain⟨p1,p2⟩:=h.wu;exact⟨e,(ZvA p1 p2).2 (by show(mW s).2=0;rw[e])⟩
theorem Zz5{n:Nat}(h:1<=n/\n<=4):gD n λi=>(i.val:Int):=oi h (by rw[vw];exact aao)
theorem Zvd{k:Zb}(h:æ k):æ (â k).1:=by
 have hp:=lX h;have c:1<=k.n.toNat/\k.n.toNat<=4:=by have:=h.n;omega
 unfold â;rw[vw]at hp;exact Ml h (λx a=>hp x (by simp[a])) (lW h (hp _ ß)).core
end Go.EL

namespace Go.EL
open Go.IntKind (i8 i16 i32 i64 u8 u16 u32 u64)
open Go Go.RowKit
abbrev Ord:=Ŀ (Fin 8->Int)
theorem Tm{n:Int}(h:n<0):kG n=fw (u64.wrap (u64.wrap (2*u64.wrap (i64.wrap (0-i64.wrap (n+1))))+1)):=ā ŉ
theorem Tn{n:Int}(h:¬n<0):kG n=lz n:=ą ŉ
theorem Ri{b:Ŀ Int}(n:Int)(a:b.length<=900000):(AM b n).Α (b++kG n):=by
 by_cases h:n<0
 .refine Cq.wp.yes h ⟨_,vz (pg _) a,?_⟩;show _=_;rw[Tm h,aaB]
 refine Cq.wp.no h ⟨_,vz (pg _) a,?_⟩;show _=_;rw[Tn h,aaB];rfl
theorem LW(n:Int):(kG n).length<=11:=by
 by_cases h:n<0
 .rw[Tm h];exact rj _
 rw[Tn h];exact F5 _
theorem F8(m:Fin 8->Int):∀k,(fX m k).length<=11*k
 |0=>ĉ _
 |k+1=>by have a:=F8 m k;have h2:=LW (Θ m (k:Int));show(fX m k++kG _).length<=_;rw[Ā];omega
theorem Zu2{b:Ŀ Int}{o:Ord}(q:o.length<=40)(n:b.length<=600000):(Le b o).Α (b++jG o):=by
 refine⟨_,vz (pg _) ŉ,?_⟩;unfold jG;have r:=rj (u64.wrap (o.length:Int));generalize fw (u64.wrap (o.length:Int))=N at *;show(Cq.next _ _).wp _;refine Cq.Zn o.length (λk st=>st=(b++N++(o.take k).flatMap λm=>fX m 8,(k:Int))) (λk st d a=>?_) (λst a=>?_) (by show _=_;simp)
 .subst a;have g:=ua (K:=88) (l:=o.take k) (f:=λm=>fX m 8) (λx _=>F8 x 8);rw[Č]at g;have h:88*min k o.length<=3520:=ŉ;refine Cq.wp.yes ŉ ?_;show(Cq.next _ _).wp _;generalize c:(b++N++(o.take k).flatMap λm=>fX m 8)=B;have e:B.length<=650000:=by rw[<-c];simp only[Ā];omega
  refine Cq.Zn 8 (λj st=>st=(B++fX o[k] j,(j:Int))) (λj st p a=>?_) (λst a=>?_) (by show _=_;simp[fX])
  .subst a;have i:=F8 o[k] j;refine Cq.wp.yes ŉ ⟨_,Ξ d,⟨ŉ,ŉ⟩,_,Ri _ (by rw[Ā];omega),?_⟩;show _=_;rw[ψ ŉ,Đ];rfl
  subst a;refine Cq.wp.no ĳ ?_;show _=_;rw[ψ ŉ,Fp (λm=>fX m 8) o d,<-c];simp only[Đ]
 subst a;refine Cq.wp.no ŉ ?_;rw[ě (ĉ _)];show _=_;rw[Đ]
structure rR (q:Zc):Prop where
 p:ω q.p
 o:q.o.length<=40
theorem ZvC{o:Ord}(h:o.length<=40):(jG o).length<=4000:=by unfold jG;have a:=rj (u64.wrap (o.length:Int));have h2:=ua (K:=88) (l:=o) (f:=λm=>fX m 8) (λx _=>F8 x 8);rw[Ā];have h3:88*o.length<=3520:=ŉ;omega
theorem LJ{q:Zc}(h:rR q):(oI q).length<=20000:=by unfold oI;have a:=LW q.kind;have h2:=Fu h.p;have h3:=ZvC h.o;rw[Ā,Ā];omega
def hP(q:Zc):Ĳ:=bytesOf (oI q)
theorem Ti{q:Zc}(h:rR q):(Gg q).Α (hP q):=by have a:=LW q.kind;have h2:=Fu h.p;exact⟨_,Ri (b:=[]) q.kind ĳ,_,S8 h.p (by rw[ļ];omega),_,Zu2 h.o (by rw[ļ,Ā];omega),rfl⟩
theorem Me{q:Zc}(h:rR q):(A1 q).Α (hP q):=⟨by have:=LJ h;omega,rfl⟩
theorem K0{a b:Zc}(c:rR a)(d:rR b):(ZY a b).Α (decide (hP a=hP b)):=⟨_,Ti c,_,Ti d,rfl⟩
theorem A0{a b:Zb}(c:jS a)(d:jS b):(Z7 a b).Α (decide (ý a=ý b)):=⟨_,c.core,_,d.core,rfl⟩
theorem Ue(m:Fin 8->Int):∀k,mj (fX m k)
 |0=>λ_ h=>by cases h
 |k+1=>(Ue m k).append (by unfold kG;split<;>exact ud _ _)
theorem Zyo(n:Int):mj (kG n):=by unfold kG;split<;>exact ud _ _
theorem TQ(q:Zc):mj (oI q):=((Zyo _).append (S0 _)).append ((ud _ _).append (F2 (λm=>Ue m 8) _))
def hM(k:Zb)(q:Zc):Ĳ:=ý k++hP q
theorem VF{k m:Zb}{p q:Zc}(c:æ k)(d:æ m)(h:hM k p=hM m q):ý k=ý m/\hP p=hP q:=by unfold hM ý hP at h;rw[JJ,JJ]at h;obtain⟨a,h2⟩:=Zx6 k m _ _ c d (Zts ((SK k).append (TQ p)) ((SK m).append (TQ q)) h);exact⟨by unfold ý;rw[a],by unfold hP;rw[h2]⟩
theorem JQ(l:Ŀ Int):(bytesOf l).size=l.length:=RT l
theorem TU{k:Zb}(h:æ k):(gW k).length<=400000:=by have a:=AR (λp hp=>(h.eqs.ia p hp).1) h.eqs.len;have h2:=AR (λp hp=>(h.ε.ia p hp).1) h.ε.len;have h3:=rj (u64.wrap (2*u64.wrap k.n));have c:=F5 k.n;unfold gW;simp only[Ā];omega
theorem ze{k:Zb}{q:Zc}(a:æ k)(c:rR q):(tH k q).Α (hM k q):=by have d:=TU a;have h2:=LJ c;exact⟨_,zg a,_,Me c,by unfold ý hP;rw[JQ,JQ];omega,rfl⟩
theorem y8{k:Zb}{q:Zc}(a:æ k)(c:rR q):(hM k q).size<=1000000:=by have d:=TU a;have h2:=LJ c;unfold hM ý hP;rw[JJ,JQ,Ā];omega
def ù(kind:Int):Ŀ Zc:=if kind=5\/kind=8 then[⟨4,[],[]⟩]else if kind=6\/kind=10 then[⟨5,[],[]⟩]else if kind=7 then[⟨6,[],[]⟩]else[]
theorem FB(q:Zc):(yP q).Α (ù q.kind)/\(FI q).Α (ù q.kind):=by
 unfold ù;by_cases a:q.kind=5
 .rw[ą (Or.inl a)];exact⟨Cq.wp.yes a (Cq.wp.yes (Ă a) rfl),Cq.wp.yes a (Cq.wp.yes (Ă a) rfl)⟩
 by_cases g:q.kind=8
 .rw[ą (Or.inr g)];exact⟨Cq.wp.no a (Cq.wp.yes (Ă g) rfl),Cq.wp.no a (Cq.wp.yes (Ă g) rfl)⟩
 rw[ā ŉ];have f:¬(decide (q.kind=8))=true:=by simpa using g
 by_cases c:q.kind=6
 .rw[ą (Or.inl c)];exact⟨Cq.wp.no a (Cq.wp.no f (Cq.wp.yes c (Cq.wp.yes (Ă c) rfl))),Cq.wp.no a (Cq.wp.no f (Cq.wp.yes c (Cq.wp.yes (Ă c) rfl)))⟩
 by_cases e:q.kind=10
 .rw[ą (Or.inr e)];exact⟨Cq.wp.no a (Cq.wp.no f (Cq.wp.no c (Cq.wp.yes (Ă e) rfl))),Cq.wp.no a (Cq.wp.no f (Cq.wp.no c (Cq.wp.yes (Ă e) rfl)))⟩
 rw[ā ŉ];have d:¬(decide (q.kind=10))=true:=by simpa using e
 by_cases h7:q.kind=7
 .rw[ą h7];exact⟨Cq.wp.no a (Cq.wp.no f (Cq.wp.no c (Cq.wp.no d (Cq.wp.yes h7 rfl)))),Cq.wp.no a (Cq.wp.no f (Cq.wp.no c (Cq.wp.no d (Cq.wp.yes h7 rfl))))⟩
 rw[ā h7];exact⟨Cq.wp.no a (Cq.wp.no f (Cq.wp.no c (Cq.wp.no d (Cq.wp.no h7 rfl)))),Cq.wp.no a (Cq.wp.no f (Cq.wp.no c (Cq.wp.no d (Cq.wp.no h7 rfl))))⟩
end Go.EL

namespace Go.EL
open Go.IntKind (i8 i16 i32 i64 u8 u16 u32 u64)
open Go Go.RowKit
theorem KN:∀{a b c:Ŀ UInt8},Op.bytesLess a b=true->Op.bytesLess b c=true->Op.bytesLess a c=true
 |[],_::_,_::_,_,_=>rfl
 |[],[],_,h,_=>by cases h
 |_::_,[],_,h,_=>by cases h
 |[],_::_,[],_,h=>by cases h
 |_::_,_::_,[],_,h=>by cases h
 |x::a,y::b,z::c,d,h2=>by
  simp only[Op.bytesLess,Ĵ,Ĉ,Ę,aa4]at d h2⊢;rcases d with d|⟨rfl,d⟩
  .rcases h2 with h2|⟨rfl,h2⟩
   .exact .inl (UInt8.lt_trans d h2)
   exact .inl d
  rcases h2 with h2|⟨rfl,h2⟩
  .exact .inl h2
  exact .inr ⟨rfl,KN d h2⟩
theorem RF:∀{a b:Ŀ UInt8},¬Op.bytesLess a b=true->¬Op.bytesLess b a=true->a=b
 |[],[],_,_=>rfl
 |[],_::_,h,_=>absurd rfl h
 |_::_,[],_,h=>absurd rfl h
 |x::a,y::b,c,h2=>by simp only[Op.bytesLess,Ĵ,Ĉ,Ę,aa4,not_or,not_and]at c h2;have e:x=y:=UInt8.le_antisymm (UInt8.not_lt.1 h2.1) (UInt8.not_lt.1 c.1);subst e;rw[RF (c.2 rfl) (h2.2 rfl)]
theorem RB:∀a:Ŀ UInt8,¬Op.bytesLess a a=true
 |[],h=>by cases h
 |x::a,h=>by
  simp only[Op.bytesLess,Ĵ,Ĉ,Ę,aa4]at h;rcases h with h|⟨_,h⟩
  .exact UInt8.lt_irrefl x h
  exact RB a h
def gV(σ τ:M):M:=λi=>Θ σ (τ i)
def pP(l:Ŀ M)(τ:M):Bool:=l.all (λσ=>l.any λρ=>decide (gV σ τ=ρ))&&l.all λρ=>l.any λσ=>decide (gV σ τ=ρ)
def kQ(n:Nat):Bool:=(Δ n).all (pP (Δ n))
theorem Zvf(n:Nat):kQ n=(Δ n).all (pP (Δ n)):=rfl
def qy(π:M):Bool:=decide (∀j:Fin 8,∃i:Fin 8,π i=(j.val:Int))
theorem Zwi:(kQ 1&&kQ 2&&kQ 3&&kQ 4)=true:=by decide +kernel
theorem ZyQ:((Δ 1).all qy&&(Δ 2).all qy&&(Δ 3).all qy&&(Δ 4).all qy)=true:=by decide +kernel
theorem mV{n:Nat}(h:1<=n/\n<=4){τ:M}(f:τ∈Δ n):(∀σ∈Δ n,gV σ τ∈Δ n)/\∀ρ∈Δ n,∃σ∈Δ n,gV σ τ=ρ:=by
 have key:kQ n=true:=by
  have:=Zwi;simp only[Ĉ]at this;obtain⟨⟨⟨a,h2⟩,h3⟩,g⟩:=this;have i:n=1\/n=2\/n=3\/n=4:=ŉ;rcases i with rfl|rfl|rfl|rfl
  .exact a
  .exact h2
  .exact h3
  exact g
 rw[Zvf]at key;generalize Δ n=l at *;have c:pP l τ=true:=Ć.1 key τ f;unfold pP at c;rw[Ĉ,Ć,Ć]at c;refine⟨λσ e=>?_,λρ d=>?_⟩
 .obtain⟨ρ,a,h2⟩:=dV.1 (c.1 σ e);rw[ĥ h2];exact a
 obtain⟨σ,a,h2⟩:=dV.1 (c.2 ρ d);exact⟨σ,a,ĥ h2⟩
theorem Dm{n:Nat}(h:1<=n/\n<=4){π:M}(a:π∈Δ n)(j:Fin 8):∃i:Fin 8,π i=(j.val:Int):=by
 have:=ZyQ;simp only[Ĉ,Ć]at this;obtain⟨⟨⟨c,h2⟩,h3⟩,d⟩:=this;have e:n=1\/n=2\/n=3\/n=4:=ŉ;rcases e with rfl|rfl|rfl|rfl
 .exact ĥ (c π a) j
 .exact ĥ (h2 π a) j
 .exact ĥ (h3 π a) j
 exact ĥ (d π a) j
theorem Zzo{n:Nat}(h:1<=n/\n<=4){σ τ:M}(c:τ∈Δ n)(i j:Fin 8)(a:(j.val:Int)=τ i):gV σ τ i=σ j:=by unfold gV;rw[<-a];exact Ö j.isLt
theorem R8{n:Nat}(h:1<=n/\n<=4){σ τ:M}(c:σ∈Δ n)(a:τ∈Δ n)(m:M):fx σ (fx τ m)=fx (gV σ τ) m:=by have e:=(oi h c).perm;have h2:=(oi h a).perm;have h3:=(oi h ((mV h a).1 σ c)).perm;funext j;obtain⟨i,hi⟩:=Dm h c j;obtain⟨l,d⟩:=Dm h a i;rw[ue e _ i j hi.symm,ue h2 _ l i d.symm,ue h3 _ l j (by rw[Zzo h a l i d.symm];exact hi.symm)]
def gU(F:Zf->Zf)(p:Ú):Ú:=p.map λt=>⟨F t.c,t.m⟩
theorem SJ{F:Zf->Zf}{p:Ú}(h:jx p):jx (gU F p):=by unfold gU jx;rw[Ÿ];exact h
theorem KS{π:M}(h:Ì π){p q:Ú}(hp:jx p)(c:jx q)(e:q.Perm (p.map (jn π))):à π p=q:=by obtain⟨a,h2⟩:=rl h hp;exact Sg c (a.trans e.symm) (SO h2)
theorem R9{n:Nat}(h:1<=n/\n<=4){σ τ:M}(a:σ∈Δ n)(c:τ∈Δ n){p:Ú}(hp:ω p):à σ (à τ p)=à (gV σ τ) p:=by have e:=(oi h a).perm;have h2:=(oi h c).perm;have h3:=(oi h ((mV h c).1 σ a)).perm;have f:=oF h2 hp;obtain⟨a1,a2⟩:=rl e f.ord;obtain⟨d,g⟩:=rl h2 hp.ord;refine(KS h3 hp.ord a2 ?_).symm;refine a1.trans ((d.map _).trans (abC ?_));rw[aaa];refine ŭ λt _=>?_;show(⟨t.c,fx σ (fx τ t.m)⟩:Za)=⟨t.c,_⟩;rw[R8 h a c]
theorem ZvF{π:M}(h:Ì π)(F:Zf->Zf){p:Ú}(hp:ω p):à π (gU F p)=gU F (à π p):=by obtain⟨a,c⟩:=rl h hp.ord;refine KS h (SJ hp.ord) (SJ c) ?_;unfold gU;rw[aaa];refine(a.map _).trans (abC ?_);rw[aaa];rfl
theorem Zz8{s:Int}(d:s=1\/s = -1){u:Int}{g k:Nat}(f:1<=g)(h:1<=k){n:Int}(e:n % ((k*g:Nat):Int)=0):s*u*((s*(n / (g:Int))) / (k:Int))=u*(n / ((k*g:Nat):Int)):=by
 obtain⟨q,rfl⟩:∃q,n=((k*g:Nat):Int)*q:=⟨n / ((k*g:Nat):Int),by have:=ei n ((k*g:Nat):Int);omega⟩;have c:((k*g:Nat):Int)*q=(g:Int)*((k:Int)*q):=by rw[Int.natCast_mul,aaB (k:Int),Int.mul_assoc]
 have a:((k*g:Nat):Int)≠0:=by have:=Nat.mul_pos (show 0<k by omega) (show 0<g by omega);omega
 rw[ey _ a,c,ey _ ŉ];rcases d with rfl|rfl
 .rw[aat,aat,ey _ ŉ]
 rw[show(-1:Int)*((k:Int)*q)=(k:Int)*(-q) by rw[Int.mul_neg,Int.neg_mul,aat],ey _ ŉ,Int.neg_mul,aat,Int.neg_mul,Int.mul_neg,Int.neg_neg]
theorem ZyN{s:Int}(l:s=1\/s = -1){g:Nat}(k:1<=g){p:Ú}(hp:ω p)(d:p≠[])(j:∀t∈p,Î t.c % (g:Int)=0):jJ (gU (fK s g) p)=s*jJ p:=by
 match p,d with
 |t::p,_=>
  obtain⟨e,m,_⟩:=hp.num (t:=t) ß;have c:=j t ß;show(if Î (fK s g t.c)<0 then(-1:Int)else 1)=s*(if Î t.c<0 then -1 else 1);rw[LV];have n:=Mw k c m;have i:=ei (Î t.c) g;rw[c,aaA]at i;generalize Î t.c / (g:Int)=z at *;generalize Î t.c=N at *;have sg:z<0↔N<0:=by
   constructor
   .intro f;have:=abb (show(0:Int)<(g:Int) by omega) f;omega
   intro a;by_cases f:0<z
   .have:=Int.mul_pos (show(0:Int)<(g:Int) by omega) f;omega
   omega
  rcases l with rfl|rfl
  .rw[aat,aat];by_cases a:N<0
   .rw[ą a,ą (sg.2 a)]
   rw[ā a,ā (λh=>a (sg.1 h))]
  by_cases a:N<0
  .have:=sg.2 a;rw[ą a,ā ŉ];rfl
  have:¬z<0:=λh=>a (sg.1 h);rw[ā a,ą ŉ];rfl
theorem Zxh{s:Int}(h:s=1\/s = -1){g:Nat}(f:1<=g){p:Ú}(hp:ω p)(i:∀t∈p,Î t.c % (g:Int)=0):Χ (gU (fK s g) p)=Χ p:=by
 by_cases c:p=[]
 .subst c;rfl
 have j:=K7 h f i;have a:ô (gU (fK s g) p)*g=ô p:=j;have l:1<=ô (gU (fK s g) p):=by
  have:=(xz hp c).1;rcases aa1 (ô (gU (fK s g) p))with e|e
  .rw[e,dz]at a;omega
  exact e
 show(gU (fK s g) p).map (λt=>(⟨fK (jJ (gU (fK s g) p)) (ô (gU (fK s g) p)) t.c,t.m⟩:Za))=p.map _;rw[ZyN h f hp c i];generalize ô (gU (fK s g) p)=k at *;unfold gU;rw[aaa];refine ŭ λt m=>?_;have d:=xJ m;rw[<-a]at d;show(⟨fK (s*jJ p) k (fK s g t.c),t.m⟩:Za)=⟨fK (jJ p) (ô p) t.c,t.m⟩;have:fK (s*jJ p) k (fK s g t.c)=fK (jJ p) (ô p) t.c:=by unfold fK;rw[pB,Zz8 h f l d,a]
 rw[this]
theorem Sn{π:M}(h:Ì π){p:Ú}(hp:ω p):Χ (à π (Χ p))=Χ (à π p):=by
 by_cases a:p=[]
 .subst a;rfl
 have e:Χ p=gU (fK (jJ p) (ô p)) p:=rfl;rw[e,ZvF h _ hp];refine Zxh (Mn p) (xz hp a).1 (oF h hp) (λt c=>?_);obtain⟨y,d,rfl⟩:=Ğ.1 ((rl h hp.ord).1.mem_iff.1 c);have:=xJ d;exact this
def kH(π:M)(l:Ŀ Ú):Ŀ Ú:=l.map λp=>Χ (à π p)
theorem TE{n:Nat}{least:Int}{l:Ŀ Ú}(f:n<=4)(h:iR (n:Int) least l){π:M}(d:gD n π){plain:Bool}(hp:plain=true->1<=least):kept (l.map (à π)) plain=kH π l:=by have e:=Gy f h d;unfold kept kH;rw[aaa];refine List.filter_eq_self.2 λq g=>?_;obtain⟨p,c,rfl⟩:=Ğ.1 g;obtain⟨j,k,i,q4⟩:=e (à π p) (Ğ.2 ⟨p,c,rfl⟩);have:=ZzR (l:=[à π p]) (plain:=plain) (p:=à π p) ß i (λa=>by have:=hp a;omega);exact(ō.1 this).2
theorem y9{k:Zb}(h:æ k){π:M}(a:π∈Δ k.n.toNat):ÿ k π=⟨k.n,ep (kH π k.eqs),ep (kH π k.ε)⟩:=by obtain⟨n,eqs,ε⟩:=k;obtain⟨m,rfl,e,c⟩:=vI h.n;have d:gD m π:=oi ⟨e,c⟩ a;rw[(lW h (lX h π a)).eq];have hi:=Gy c h.ε d;dsimp only at hi⊢;unfold hQ;rw[Lj (λp hp=>(hi p hp).2.2.1),ę,TE c h.eqs d (λh=>by cases h),TE c h.ε d (λ_=>Ō 1)]
theorem VX{n:Nat}{least:Int}{l:Ŀ Ú}(h:iR (n:Int) least l){π:M}(a:Ì π):∀q∈kH π l,ω q:=λq c=>by obtain⟨p,hp,rfl⟩:=Ğ.1 c;exact vH (oF a (h.ia p hp).1)
theorem UR{n:Nat}(f:1<=n/\n<=4){least:Int}{l:Ŀ Ú}(h:iR (n:Int) least l){σ τ:M}(c:σ∈Δ n)(d:τ∈Δ n):ep (kH σ (ep (kH τ l)))=ep (kH (gV σ τ) l):=by
 have g:=(oi f c).perm;have h2:=(oi f d).perm;have h3:=(oi f ((mV f d).1 σ c)).perm;have j:=VX h h2;obtain⟨a1,a2⟩:=Ga (λp hp=>(j p hp).gp);have r:∀q∈kH σ (ep (kH τ l)),ω q:=λq e=>by obtain⟨p,hp,rfl⟩:=Ğ.1 e;exact vH (oF g (j p ((a2 p).1 hp)))
 obtain⟨k,m⟩:=Ga (λp hp=>(r p hp).gp);refine VY (λp hp=>(VX h h3 p hp).gp) k λz=>?_;rw[m z];constructor
 .intro i;obtain⟨p,hp,rfl⟩:=Ğ.1 i;obtain⟨q,e,rfl⟩:=Ğ.1 ((a2 p).1 hp);have a:=(h.ia q e).1;refine Ğ.2 ⟨q,e,?_⟩;show Χ (à (gV σ τ) q)=Χ (à σ (Χ (à τ q)));rw[Sn g (oF h2 a),R9 f c d a]
 intro i;obtain⟨q,e,rfl⟩:=Ğ.1 i;have a:=(h.ia q e).1;refine Ğ.2 ⟨Χ (à τ q),(a2 _).2 (Ğ.2 ⟨q,e,rfl⟩),?_⟩;show Χ (à σ (Χ (à τ q)))=Χ (à (gV σ τ) q);rw[Sn g (oF h2 a),R9 f c d a]
theorem R7{k:Zb}(h:æ k){σ τ:M}(c:σ∈Δ k.n.toNat)(a:τ∈Δ k.n.toNat):ÿ (ÿ k τ) σ=ÿ k (gV σ τ):=by have n:=(lW h (lX h τ a)).core;obtain⟨m,p,e,f⟩:=vI h.n;have d:k.n.toNat=m:=ŉ;have i:=h.eqs;have hi:=h.ε;rw[p]at i hi;rw[d]at c a;have g:=y9 h (π:=τ) (by rw[d];exact a);have j:=y9 h (π:=gV σ τ) (by rw[d];exact(mV ⟨e,f⟩ a).1 σ c);have l:=y9 n (π:=σ) (by rw[g];show σ∈Δ k.n.toNat;rw[d];exact c);rw[l,j,g];show(⟨k.n,ep (kH σ (ep (kH τ k.eqs))),ep (kH σ (ep (kH τ k.ε)))⟩:Zb)=_;rw[UR ⟨e,f⟩ i c a,UR ⟨e,f⟩ hi c a]
theorem LK(k:Zb):∀(l:Ŀ M) (s:Zb×M),(∃ρ,s=(ÿ k ρ,ρ))->
  (∃ρ,fm k l s=(ÿ k ρ,ρ)/\(ρ∈l\/fm k l s=s))/\(¬Op.bytesLess (ý s.1).toList (ý (fm k l s).1).toList=true)/\∀π∈l,¬Op.bytesLess (ý (ÿ k π)).toList (ý (fm k l s).1).toList=true
 |[],s,⟨ρ,g⟩=>⟨⟨ρ,g,.inr rfl⟩,RB _,λπ i=>by cases i⟩
 |π::l,s,⟨ρ,g⟩=>by
  unfold fm;by_cases c:Op.bytesLess (ý (ÿ k π)).toList (ý s.1).toList=true
  .rw[ą c];obtain⟨⟨r,d,h2⟩,h3,f⟩:=LK k l (ÿ k π,π) ⟨π,rfl⟩;refine⟨⟨r,d,?_⟩,λh=>?_,λx a=>?_⟩
   .rcases h2 with h2|h2
    .exact .inl (by simp[h2])
    rw[d]at h2;have e:=(Prod.mk.inj h2).2;exact .inl (by simp[e])
   .exact h3 (KN c h)
   rcases Ď.1 a with rfl|a
   .exact h3
   exact f x a
  rw[ā c];obtain⟨⟨r,d,h2⟩,h3,f⟩:=LK k l s ⟨ρ,g⟩;refine⟨⟨r,d,?_⟩,h3,λx a=>?_⟩
  .rcases h2 with h2|h2
   .exact .inl (by simp[h2])
   exact .inr h2
  rcases Ď.1 a with rfl|a
  .intro h;by_cases e:Op.bytesLess (ý (fm k l s).1).toList (ý s.1).toList=true
   .exact c (KN h e)
   have:=RF h3 e;rw[<-this]at h;exact c h
  exact f x a
theorem SE(k:Zb):∀(l:Ŀ M) (s:Zb×M),(∀π∈l,¬Op.bytesLess (ý (ÿ k π)).toList (ý s.1).toList=true)->fm k l s=s
 |[],_,_=>rfl
 |π::l,s,h=>by unfold fm;rw[ā (h π ß)];exact SE k l s λx a=>h x (by simp[a])
theorem Fg(k:Zb):(∃ρ∈Δ k.n.toNat,â k=(ÿ k ρ,ρ))/\∀π∈Δ k.n.toNat,¬Op.bytesLess (ý (ÿ k π)).toList (ý (â k).1).toList=true:=by
 obtain⟨⟨ρ,c,h2⟩,h3,d⟩:=LK k (Δ k.n.toNat).tail (ÿ k (λi=>(i.val:Int)),λi=>(i.val:Int)) ⟨_,rfl⟩;rw[vw];refine⟨⟨ρ,?_,c⟩,λπ a=>?_⟩
 .rcases h2 with h2|h2
  .simp[h2]
  rw[c]at h2;have:=(Prod.mk.inj h2).2;simp[this]
 rcases Ď.1 a with rfl|a
 .exact h3
 exact d π a
theorem id_comp{n:Nat}(a:1<=n/\n<=4){ρ:M}(h:ρ∈Δ n):gV (λi=>(i.val:Int)) ρ=ρ:=by funext i;have hr:=(oi a h).perm.ow i;show Θ _ (ρ i)=ρ i;rw[mY hr];show((ρ i).toNat:Int)=ρ i;omega
theorem ZlS{π:M}(h:Ì π):(Jn π).Α true:=by
 refine Cq.Zn 8 (λk s=>∃a:Fin 8->Bool,s=((k:Int),a)/\∀j,a j=true->∃i:Fin 8,i.val<k/\(j.val:Int)=π i) (λk s c e=>?_) (λs e=>?_) ⟨_,rfl,λj f=>by cases f⟩
 .obtain⟨a,rfl,d⟩:=e;have r:=h.ow ⟨k,c⟩;refine Cq.wp.yes ŉ ⟨⟨ŉ,ŉ⟩,?_⟩;rw[Ö c];refine Cq.wp.no ŉ ⟨⟨ŉ,ŉ⟩,Cq.wp.no ŉ ⟨⟨ŉ,ŉ⟩,r,Cq.wp.no (Gn h c d) ⟨⟨ŉ,ŉ⟩,r,?_⟩⟩⟩;rw[ψ ŉ];exact⟨_,rfl,Fv h c d⟩
 obtain⟨a,rfl,d⟩:=e;exact Cq.wp.no ĳ rfl
end Go.EL

namespace Go.EL
open Go.IntKind (i8 i16 i32 i64 u8 u16 u32 u64)
open Go Go.RowKit
abbrev Qn:=Int×Nat
def Ν(x:Qn):Zf:=⟨ä x.1,ä (x.2:Int)⟩
def uQ(n:Int)(d:Nat):Qn:=(n / ((Nat.gcd n.natAbs d:Nat):Int),d / Nat.gcd n.natAbs d)
def hK(x y:Qn):Qn:=uQ (x.1*y.1) (x.2*y.2)
def mI(x y:Qn):Qn:=uQ (x.1*(y.2:Int)-y.1*(x.2:Int)) (x.2*y.2)
def km(x:Qn):Qn:=if x.1<0 then(-(x.2:Int),x.1.natAbs)else((x.2:Int),x.1.natAbs)
def pe(x:Qn):Int:=if x.1<0 then -1 else if x.1=0 then 0 else 1
def hZ:Ŀ Qn:=[(0,1),(1,1),(-1,1),(2,1),(-2,1),(3,1),(-3,1),(1,2),(-1,2),(3,2),(-3,2),(1,3),(-1,3),(2,3),(-2,3)]
def jQ(x:Qn):Bool:=match x.2 with
 |1=>match x.1 with
  |.ofNat n=>Nat.ble n 3
  |.negSucc n=>Nat.ble n 2
 |2=>match x.1 with
  |.ofNat n=>Nat.beq n 1 || Nat.beq n 3
  |.negSucc n=>Nat.beq n 0 || Nat.beq n 2
 |3=>match x.1 with
  |.ofNat n=>Nat.beq n 1 || Nat.beq n 2
  |.negSucc n=>Nat.beq n 0 || Nat.beq n 1
 |_=>false
theorem Gl{x:Qn}(h:jQ x=true):x∈hZ:=by
 obtain⟨n,d⟩:=x;unfold jQ at h;dsimp only at h;split at h
 .cases n with
  |ofNat n=>have h:=Š h;match n,h with|0,_=>decide|1,_=>decide|2,_=>decide|3,_=>decide
  |negSucc n=>have h:=Š h;match n,h with|0,_=>decide|1,_=>decide|2,_=>decide
 .cases n with
  |ofNat n=>rw[Ĵ]at h;rcases h with h|h<;>(rw[ĵ h];decide)
  |negSucc n=>rw[Ĵ]at h;rcases h with h|h<;>(rw[ĵ h];decide)
 .cases n with
  |ofNat n=>rw[Ĵ]at h;rcases h with h|h<;>(rw[ĵ h];decide)
  |negSucc n=>rw[Ĵ]at h;rcases h with h|h<;>(rw[ĵ h];decide)
 cases h
theorem OD:(á (-1) 3 λn=>runs 40 (ZX n) (Ν (n,1))&&runs 40 (wX n) (Ν (n,1)))=true:=by decide +kernel
theorem OB:(hZ.all λx=>runs 40 (oC (Ν x)) (pe x)&&runs 40 (ZH (Ν x)) (pe x))=true:=by decide +kernel
theorem OC:(hZ.all λx=>x.1 == 0 || runs 60 (Gv (Ν x)) (Ν (km x),0))=true:=by decide +kernel
theorem DC:(hZ.all λx=>hZ.all λy=>runs 60 (rn (Ν x) (Ν y)) (Ν (hK x y)))=true:=by decide +kernel
theorem DE:(hZ.all λx=>hZ.all λy=>runs 60 (Gd (Ν x) (Ν y)) (Ν (mI x y)))=true:=by decide +kernel
theorem DB:(hZ.all λx=>hZ.all λy=>runs 60 (Z9 (Ν x) (Ν y)) (Ν (hK x y)))=true:=by decide +kernel
theorem DD:(hZ.all λx=>hZ.all λy=>runs 60 (Ev (Ν x) (Ν y)) (Ν (mI x y)))=true:=by decide +kernel
theorem DF:(hZ.all λx=>hZ.all λy=>y.1 == 0 || runs 60 (EH (Ν x) (Ν y)) (Ν (hK x (km y)),0))=true:=by decide +kernel
theorem th{f:Qn->Qn->Bool}(h:(hZ.all λx=>hZ.all λy=>f x y)=true){x y:Qn}(a:jQ x=true)(c:jQ y=true):f x y=true:=Ć.1 (Ć.1 h x (Gl a)) y (Gl c)
theorem xL{n:Int}(h:-1<=n/\n<=3):(ZX n).Α (Ν (n,1))/\(wX n).Α (Ν (n,1)):=by have:=Zq OD h.1 h.2;rw[Ĉ]at this;exact⟨Zs this.1,Zs this.2⟩
theorem MA{x:Qn}(h:jQ x=true):(oC (Ν x)).Α (pe x)/\(ZH (Ν x)).Α (pe x):=by have:=Ć.1 OB x (Gl h);rw[Ĉ]at this;exact⟨Zs this.1,Zs this.2⟩
theorem ZBy{x:Qn}(h:jQ x=true)(a:x.1≠0):(Gv (Ν x)).Α (Ν (km x),0):=by have:=Ć.1 OC x (Gl h);rw[Ĵ]at this;exact Zs (this.resolve_left (by simpa using a))
theorem O4{x y:Qn}(a:jQ x=true)(c:jQ y=true):(rn (Ν x) (Ν y)).Α (Ν (hK x y)):=Zs (th DC a c)
theorem ZBB{x y:Qn}(a:jQ x=true)(c:jQ y=true):(Gd (Ν x) (Ν y)).Α (Ν (mI x y)):=Zs (th DE a c)
theorem ZBz{x y:Qn}(a:jQ x=true)(c:jQ y=true):(Z9 (Ν x) (Ν y)).Α (Ν (hK x y)):=Zs (th DB a c)
theorem ZBA{x y:Qn}(a:jQ x=true)(c:jQ y=true):(Ev (Ν x) (Ν y)).Α (Ν (mI x y)):=Zs (th DD a c)
theorem ZBC{x y:Qn}(c:jQ x=true)(d:jQ y=true)(a:y.1≠0):(EH (Ν x) (Ν y)).Α (Ν (hK x (km y)),0):=by have:=th DF c d;rw[Ĵ]at this;exact Zs (this.resolve_left (by simpa using a))
end Go.EL

namespace Go.EL
open Go.IntKind (i8 i16 i32 i64 u8 u16 u32 u64)
open Go Go.RowKit
def nN(n:Int):Qn:=uQ n 3
def oP(n m:Int):Qn:=uQ (2*n+3*m) 6
def nE(x:Qn):Bool:=runs 60 (ug (Ν x)) true&&runs 60 (Z0 (Ν x)) true
def qC(x:Qn)(b:Bool):Bool:=runs 60 (vy (Ν x)) b&&runs 60 (tC (Ν x)) b
def BP(x y:Qn)(c:Int):Bool:=runs 60 (vF (Ν x) (Ν y)) c&&runs 60 (vi (Ν x) (Ν y)) c
theorem Mr:(á (-128) 127 λn=>runs 60 (xv ⟨n,3,0⟩) (Ν (nN n))&&(nE (nN n)&&qC (nN n) (decide (n=0))))=true:=by decide +kernel
theorem Ty:(á 0 7 λm=>runs 60 (xv ⟨m,2,0⟩) (Ν (uQ m 2))&&qC (oP 0 m) (decide (m=0)))=true:=by decide +kernel
theorem YV:(á (-256) 275 λs=>nE (uQ s 6))=true:=by decide +kernel
theorem Zzn:(á 0 7 λm=>á (-128) 127 λn=>BP (nN n) (oP n m) (if m=0 then 0 else -1))=true:=by decide +kernel
def nc(m:Int):Bool:=á (-128) 127 λn=>runs 60 (vE (Ν (nN n)) (Ν (uQ m 2))) (Ν (oP n m))
theorem MD:nc 0=true:=by decide +kernel
theorem ME:nc 1=true:=by decide +kernel
theorem MF:nc 2=true:=by decide +kernel
theorem MG:nc 3=true:=by decide +kernel
theorem MH:nc 4=true:=by decide +kernel
theorem MI:nc 5=true:=by decide +kernel
theorem MJ:nc 6=true:=by decide +kernel
theorem MK:nc 7=true:=by decide +kernel
theorem ZxX{m:Int}(h:0<=m/\m<=7):nc m=true:=by
 have:m=0\/m=1\/m=2\/m=3\/m=4\/m=5\/m=6\/m=7:=ŉ;rcases this with rfl|rfl|rfl|rfl|rfl|rfl|rfl|rfl
 .exact MD
 .exact ME
 .exact MF
 .exact MG
 .exact MH
 .exact MI
 .exact MJ
 exact MK
abbrev gN(n:Int):Prop:=-128<=n/\n<=127
abbrev iC(m:Int):Prop:=0<=m/\m<=7
theorem Va{n:Int}(h:gN n):(xv ⟨n,3,0⟩).Α (Ν (nN n)):=by have:=Zq Mr h.1 h.2;rw[Ĉ]at this;exact Zs this.1
theorem ZwR{m:Int}(h:iC m):(xv ⟨m,2,0⟩).Α (Ν (uQ m 2)):=by have:=Zq Ty h.1 h.2;rw[Ĉ]at this;exact Zs this.1
theorem U6{n m:Int}(h:gN n)(a:iC m):(vE (Ν (nN n)) (Ν (uQ m 2))).Α (Ν (oP n m)):=
 Zs (Zq (ZxX a) h.1 h.2)
theorem TH{n:Int}(h:gN n):(ug (Ν (nN n))).Α true/\(Z0 (Ν (nN n))).Α true:=by have:=Zq Mr h.1 h.2;unfold nE at this;simp only[Ĉ]at this;exact⟨Zs this.2.1.1,Zs this.2.1.2⟩
theorem Vb{n:Int}(h:gN n):(vy (Ν (nN n))).Α (decide (n=0))/\(tC (Ν (nN n))).Α (decide (n=0)):=by have:=Zq Mr h.1 h.2;unfold qC at this;simp only[Ĉ]at this;exact⟨Zs this.2.2.1,Zs this.2.2.2⟩
theorem ZzM{m:Int}(h:iC m):(vy (Ν (oP 0 m))).Α (decide (m=0))/\(tC (Ν (oP 0 m))).Α (decide (m=0)):=by have:=Zq Ty h.1 h.2;unfold qC at this;simp only[Ĉ]at this;exact⟨Zs this.2.1,Zs this.2.2⟩
theorem TA{n m:Int}(h:gN n)(a:iC m):(ug (Ν (oP n m))).Α true/\(Z0 (Ν (oP n m))).Α true:=by have:=Zq YV (show -256<=2*n+3*m by omega) (show 2*n+3*m<=275 by omega);unfold nE at this;simp only[Ĉ]at this;exact⟨Zs this.1,Zs this.2⟩
theorem TY{n m:Int}(h:gN n)(a:iC m):(vF (Ν (nN n)) (Ν (oP n m))).Α (if m=0 then 0 else -1)/\(vi (Ν (nN n)) (Ν (oP n m))).Α (if m=0 then 0 else -1):=by have:=Zq (Zq Zzn a.1 a.2) h.1 h.2;unfold BP at this;simp only[Ĉ]at this;exact⟨Zs this.1,Zs this.2⟩
def mh(n m:Int):Zl:=⟨Ν (nN n),Ν (oP n m)⟩
theorem Qc{n m:Int}(h:gN n)(a:iC m):(JW (mh n m)).Α true:=by refine⟨true,(TH h).1,true,(TA h a).1,_,(TY h a).1,?_⟩;show decide _=true;split<;>decide
theorem Zod{n m:Int}(h:gN n)(a:iC m):(Jt (mh n m)).Α true:=by refine⟨true,(TH h).2,true,(TA h a).2,_,(TY h a).2,?_⟩;show decide _=true;split<;>decide
end Go.EL

namespace Go.EL
open Go.IntKind (i8 i16 i32 i64 u8 u16 u32 u64)
open Go Go.RowKit
def eX{α:Type}(Z row:Ŀ α)(n:Nat):Ŀ α:=Z.take n++row.drop n
section
variable {α:Type}{Z row:Ŀ α}
theorem Zvk:eX Z row 0=row:=rfl
theorem ZwL(h:Z.length=row.length):eX Z row Z.length=Z:=by unfold eX;rw[List.take_length,h,List.drop_length,List.append_nil]
theorem EX(h:Z.length=row.length){n:Nat}(a:Z.length<=n):eX Z row n=Z:=by unfold eX;rw[List.take_of_length_le a,List.drop_eq_nil_of_le ŉ,List.append_nil]
theorem SQ(h:Z.length=row.length)(n:Nat):(eX Z row n).length=row.length:=by unfold eX;rw[List.length_append,List.length_take,List.length_drop];omega
theorem LO(h:Z.length=row.length){n:Nat}(a:n<row.length):(eX Z row n)[n]?=some row[n]:=by unfold eX;rw[ģ (by rw[Č];omega),Č,ŧ,show n+(n-min n Z.length)=n by omega];exact Ą a
theorem A4(h:Z.length=row.length){n:Nat}(a:n<row.length):(eX Z row n).set n (Z[n]'ŉ)=eX Z row (n+1):=by
 refine ŷ λi=>?_;unfold eX;rw[aac];by_cases e:n=i
 .subst e;rw[ą rfl,ą (by rw[Ā,Č,ľ];omega),Ė (by rw[Č];omega),ų ŉ,Ą ŉ]
 rw[ā e];by_cases hi:i<n
 .rw[Ė (by rw[Č];omega),Ė (by rw[Č];omega),ų hi,ų ŉ]
 rw[ģ (by rw[Č];omega),ģ (by rw[Č];omega),Č,Č,ŧ,ŧ];congr 1;omega
theorem Ks(h:Z.length=row.length)(g:row.length<=1000){step:Int×Ŀ α->Cq ((Int×Ŀ α)⊕Ŀ α)}(f:∀n (i:n<row.length),(step ((n:Int),eX Z row n)).Α (.inl (((n+1:Nat):Int),(eX Z row n).set n (Z[n]'ŉ))))
  (h2:(step ((row.length:Int),Z)).Α (.inr Z)):(Cq.loop step (0,row)).Α Z:=by
 refine Cq.Zn row.length (λk s=>s=((k:Int),eX Z row k)) (λk s d c=>?_) (λs c=>?_) rfl
 .subst c
  refine(step _).mono (λa (e:a=_)=>?_) (f k d)
  subst e
  show _=_
  rw[A4 h d]
 subst c
 rw[<-h,ZwL h]
 refine(step _).mono (λa (e:a=_)=>?_) (by rw[h];exact h2)
 subst e
 rfl
end
theorem ui{l:Ŀ Qn}{n:Nat}(h:n<l.length):(0:Int)<=(n:Int)/\(l.map Ν)[(n:Int).toNat]?=some (Ν l[n]):=⟨ŉ,by simp[h]⟩
theorem vq{α:Type}{Z row:Ŀ α}(h:Z.length=row.length){n:Nat}(a:n<row.length):(0:Int)<=(n:Int)/\(eX Z row n)[(n:Int).toNat]?=some row[n]:=⟨ŉ,by rw[ē];exact LO h a⟩
def oY(row oo:Ŀ Qn)(c:Qn):Ŀ Qn:=List.zipWith (λx y=>mI x (hK c y)) row oo
def ql(row oo:Ŀ Qn)(c:Qn):Bool:=jQ c&&row.all jQ&&oo.all jQ&&oo.all (λy=>jQ (hK c y))&&decide (row.length=8)&&decide (oo.length=8)
theorem ZxT{row oo:Ŀ Qn}{k:Nat}(j:k<row.length)(h:ql row oo row[k]=true):(Kl (row.map Ν) (oo.map Ν) (k:Int)).Α ((oY row oo row[k]).map Ν):=by
 unfold ql at h;simp only[Ĉ,Ę,Ć]at h;obtain⟨⟨⟨⟨⟨f,h2⟩,h3⟩,g⟩,l⟩,m⟩:=h;have d:((oY row oo row[k]).map Ν).length=(row.map Ν).length:=by rw[List.length_map,List.length_map];unfold oY;rw[List.length_zipWith];omega
 refine⟨_,ui j,?_⟩;show(Cq.next _ _).wp _;refine Cq.mono _ (λa (e:a=_)=>?_) (Ks (Z:=(oY row oo row[k]).map Ν) (row:=row.map Ν) d (by rw[ć];omega) (λn c=>?_) ?_)
 .subst e;rfl
 .have nM:n<row.length:=by rwa [ć]at c
  have i:n<oo.length:=ŉ;refine Cq.wp.yes ŉ ⟨_,vq d c,_,ui i,Ν (hK row[k] oo[n]),O4 f (h3 _ (ă _)),Ν (mI row[n] (hK row[k] oo[n])),?_,_,vq d c,?_⟩
  .rw[ũ];exact ZBB (h2 _ (ă _)) (g _ (ă _))
  show _=_;rw[ψ ŉ];congr 3;simp[oY]
 exact Cq.wp.no (by rw[ć];omega) rfl
def eI:Ŀ Qn->Nat
 |[]=>0
 |x::l=>if x.1=0 then eI l+1 else 0
theorem Ls:∀l:Ŀ Qn,eI l<=l.length
 |[]=>ĉ _
 |x::l=>by have:=Ls l;unfold eI;split<;>simp only[Ě]<;>omega
theorem Tt:∀{l:Ŀ Qn}{n:Nat}(h:n<l.length),n<eI l->l[n].1=0
 |x::l,0,_,h=>by
  unfold eI at h;split at h
  .assumption
  omega
 |x::l,n+1,a,h=>by
  unfold eI at h;split at h
  .exact Tt (l:=l) (by simpa using a) ŉ
  omega
theorem Lt:∀{l:Ŀ Qn}(h:eI l<l.length),l[eI l].1≠0
 |x::l,h=>by
  by_cases a:x.1=0
  .have e:eI (x::l)=eI l+1:=ą a;simp only[e,x6];exact Lt (l:=l) (by rw[e]at h;simpa using h)
  have e:eI (x::l)=0:=ā a;simp only[e,dA];exact a
theorem Fw{x:Qn}:pe x=0↔x.1=0:=by
 unfold pe;split
 .constructor<;>intro<;>omega
 split<;>constructor<;>intro<;>omega
theorem Zv6{row:Ŀ Qn}(h:row.length=8)(a:row.all jQ=true):(QK (row.map Ν) 0).Α (eI row:Int):=by
 rw[Ć]at a;have f:=Ls row;refine Cq.Zn (eI row) (λk s=>s=(k:Int)) (λk s d c=>?_) (λs c=>?_) rfl
 .subst c;refine Cq.wp.yes ŉ ⟨_,ui (l:=row) ŉ,_,(MA (a _ (ă ŉ))).1,Cq.wp.yes (Fw.2 (Tt ŉ d)) ?_⟩;show _=_;rw[ψ ŉ]
 subst c;by_cases g:eI row<8
 .refine Cq.wp.yes ŉ ⟨_,ui (l:=row) ŉ,_,(MA (a _ (ă ŉ))).1,Cq.wp.no (λe=>Lt ŉ (Fw.1 e)) rfl⟩
 exact Cq.wp.no ŉ rfl
def pd(row:Ŀ Qn)(c:Qn):Ŀ Qn:=row.map λx=>hK x c
theorem ZxU{row:Ŀ Qn}{c:Qn}(e:Int)(h:row.length=8)(a:row.all jQ=true)(g:jQ c=true):(QJ (Ν c,e) (0,row.map Ν)).Α ((pd row c).map Ν):=by
 rw[Ć]at a;have f:((pd row c).map Ν).length=(row.map Ν).length:=by simp[pd]
 refine Ks (Z:=(pd row c).map Ν) (row:=row.map Ν) f (by rw[ć];omega) (λn d=>?_) ?_
 .have nM:n<row.length:=by rwa [ć]at d
  refine Cq.wp.yes ŉ ⟨_,vq f d,Ν (hK row[n] c),?_,_,vq f d,?_⟩
  .rw[ũ];exact O4 (a _ (ă _)) g
  show _=_;rw[ψ ŉ];congr 3;simp[pd]
 exact Cq.wp.no (by rw[ć];omega) rfl
def fW(m:Fin 8->Int):Ŀ Qn:=(List.range 8).map λ(k:Nat)=>(Θ m (k:Int),1)
def lZ(m:Fin 8->Int):Bool:=decide (∀i,-1<=m i/\m i<=3)
theorem L5(m:Fin 8->Int):(fW m).length=8:=by simp[fW]
theorem Ud{m:Fin 8->Int}(h:lZ m=true){k:Nat}(a:k<8):-1<=Θ m (k:Int)/\Θ m (k:Int)<=3:=by rw[Ö a];exact ĥ h _
theorem Zv8{o:Ord}{i:Nat}(hi:i<o.length)(h:lZ o[i]=true){z:Zf}:(Qx o (i:Int) (0,List.replicate 8 z)).Α ((fW o[i]).map Ν):=by
 have c:((fW o[i]).map Ν).length=(List.replicate 8 z).length:=by rw[ć,L5,Ĺ]
 refine Ks (Z:=(fW o[i]).map Ν) (row:=List.replicate 8 z) c (by rw[Ĺ];omega) (λn a=>?_) ?_
 .have nM:n<8:=by rwa [Ĺ]at a
  refine Cq.wp.yes ŉ ⟨_,Ξ hi,⟨ŉ,ŉ⟩,Ν (Θ o[i] (n:Int),1),(xL (Ud h nM)).1,_,vq c a,?_⟩;show _=_;rw[ψ ŉ];congr 3;simp[fW]
 exact Cq.wp.no (by rw[Ĺ];omega) rfl
def fy(done:Ŀ (Ŀ Qn×Nat))(row:Ŀ Qn):Nat->Ŀ Qn
 |0=>row
 |k+1=>match done[k]? with
  |some d=>oY (fy done row k) d.1 ((fy done row k).getD d.2 (0,1))
  |none=>fy done row k
def qn(done:Ŀ (Ŀ Qn×Nat))(row:Ŀ Qn):Bool:=(List.range done.length).all λk=>match done[k]? with
 |some d=>ql (fy done row k) d.1 ((fy done row k).getD d.2 (0,1))&&decide (d.2<8)
 |none=>false
theorem Ztn{done:Ŀ (Ŀ Qn×Nat)}{row:Ŀ Qn}(l:done.length<=100)(h:qn done row=true):
  (QL (done.map λd=>d.1.map Ν) (done.map λd=>(d.2:Int)) (0,row.map Ν)).Α ((fy done row done.length).map Ν):=by
 refine Cq.Zn done.length (λk s=>s=((k:Int),(fy done row k).map Ν)) (λk s c e=>?_) (λs e=>?_) rfl
 .subst e
  have a:=Ć.1 h k (ĺ.2 c)
  have f:done[k]?=some done[k]:=Ą c
  rw[f]at a
  dsimp only at a
  rw[Ĉ]at a
  have j:(fy done row k).length=8:=by have:=a.1;unfold ql at this;simp only[Ĉ,Ę]at this;exact this.1.2
  have h2:done[k].2<(fy done row k).length:=by rw[j];exact ĥ a.2
  have g:(fy done row k).getD done[k].2 (0,1)=(fy done row k)[done[k].2]:=by rw[Ģ,Ą h2];rfl
  rw[g]at a
  refine Cq.wp.yes (by rw[ć];omega) ⟨done[k].1.map Ν,⟨ŉ,by simp[c]⟩,(done[k].2:Int),⟨ŉ,by simp[c]⟩,_,ZxT h2 a.1,?_⟩
  show _=_
  rw[ψ ŉ]
  congr 2
  have i:fy done row (k+1)=match done[k]? with|some d=>oY (fy done row k) d.1 ((fy done row k).getD d.2 (0,1))|none=>fy done row k:=rfl
  rw[i,f]
  dsimp only
  rw[g]
 subst e
 exact Cq.wp.no (by rw[ć];omega) rfl
def õ(o:Ord):Nat->Ŀ (Ŀ Qn×Nat)
 |0=>[]
 |k+1=>match o[k]? with
  |some m=>
   let row:=fy (õ o k) (fW m) (õ o k).length
   if eI row=8 then õ o k else õ o k++[(pd row (km (row.getD (eI row) (0,1))),eI row)]
  |none=>õ o k
theorem Cq.eY{α β:Type}{c:Cq α}{k:α->Cq β}{p:β->Prop}{r:α}(h:c.Α r)(h2:(k r).wp p):(c.next k).wp p:=c.mono (λa (e:a=r)=>by rw[e];exact h2) h
def sS(o:Ord):Bool:=(List.range o.length).all λk=>match o[k]? with
 |some m=>
  let row:=fy (õ o k) (fW m) (õ o k).length
  lZ m&&qn (õ o k) (fW m)&&row.all jQ&&decide (row.length=8)&&(eI row == 8 || (jQ (row.getD (eI row) (0,1))&&jQ (km (row.getD (eI row) (0,1)))))
 |none=>false
theorem Sd(o:Ord):∀k,(õ o k).length<=k
 |0=>ĉ _
 |k+1=>by
  have:=Sd o k;unfold õ;split
  .dsimp only;split
   .omega
   rw[Ā];simp only[Ě,Ļ];omega
  omega
theorem Zv9{o:Ord}(A:o.length<=40)(h:sS o=true):(FT o).Α ((õ o o.length).length:Int):=by
 show(Cq.next _ _).wp _;refine Cq.Zn o.length (λk s=>s=((õ o k).map (λd=>d.1.map Ν),(õ o k).map (λd=>(d.2:Int)),(k:Int))) (λk s j l=>?_) (λs l=>?_) rfl
 .subst l;have e:=Ć.1 h k (ĺ.2 j);have q:o[k]?=some o[k]:=Ą j;rw[q]at e;dsimp only at e;simp only[Ĉ,Ę]at e;obtain⟨⟨⟨⟨t,h2⟩,h3⟩,n⟩,g⟩:=e;have x:=Sd o k;have f:õ o (k+1)=if eI (fy (õ o k) (fW o[k]) (õ o k).length)=8 then õ o k else õ o k++[(pd (fy (õ o k) (fW o[k]) (õ o k).length) (km ((fy (õ o k) (fW o[k]) (õ o k).length).getD (eI (fy (õ o k) (fW o[k]) (õ o k).length)) (0,1))),eI (fy (õ o k) (fW o[k]) (õ o k).length))]:=by
   show(match o[k]? with|some m=>_|none=>_)=_;rw[q]
  generalize y:õ o k=D at *;have c:=Ztn (done:=D) (row:=fW o[k]) ŉ h2;generalize r:fy D (fW o[k]) D.length=row at *;have u:=Ls row;refine Cq.wp.yes ŉ ?_;refine Cq.eY (Zv8 j t) (Cq.eY c (Cq.eY (Zv6 n h3) ?_));by_cases i:eI row=8
  .refine Cq.wp.yes ŉ ?_;show _=_;rw[ψ ŉ,f,ą i]
  refine Cq.wp.no ŉ ?_;have a:eI row<row.length:=ŉ;have v:row.getD (eI row) (0,1)=row[eI row]:=by rw[Ģ,Ą a];rfl
  rw[v]at g f;have p:jQ row[eI row]=true/\jQ (km row[eI row])=true:=by rw[Ĵ,aa4,Ĉ]at g;exact g.resolve_left i
  refine⟨_,ui a,_,ZBy p.1 (Lt a),Cq.eY (ZxU 0 n h3 p.2) ?_⟩;refine⟨by simp only[Ā,ć,Ě,Ļ];show _<=small;simp only[small];omega,by simp only[Ā,ć,Ě,Ļ];show _<=small;simp only[small];omega,?_⟩;show _=_;rw[ψ ŉ,f,ā i,Ī,Ī];rfl
 subst l;refine Cq.wp.no ŉ ?_;show _=_;rw[ć]
end Go.EL

namespace Go.EL
open Go.IntKind (i8 i16 i32 i64 u8 u16 u32 u64)
open Go Go.RowKit
abbrev Mq:=Ŀ (Ŀ Qn)
def gv(V:Mq):Ŀ (Ŀ Zf):=V.map λr=>r.map Ν
theorem Gp{α:Type}{V:Ŀ α}{k:Nat}(a:k<V.length)(r:α):(0:Int)<=(k:Int)/\(V.set k r)[(k:Int).toNat]?=some r:=⟨ŉ,by simp[a]⟩
theorem ZAd{α:Type}{V:Ŀ α}{k j:Nat}(a:j<V.length)(h:k≠j)(r:α):(0:Int)<=(j:Int)/\(V.set k r)[(j:Int).toNat]?=some V[j]:=⟨ŉ,by simp[h,a]⟩
theorem L6{α:Type}{V:Ŀ α}{k:Nat}(a:k<V.length):V.set k V[k]=V:=ß
theorem Zw3{m:Fin 8->Int}(h:lZ m=true){V:Ŀ (Ŀ Zf)}{k:Nat}(f:k<V.length){z:Zf}(g:V[k]=List.replicate 8 z):(PS (k:Int) m (V,0)).Α (V.set k ((fW m).map Ν)):=by
 have c:((fW m).map Ν).length=(List.replicate 8 z).length:=by rw[ć,L5,Ĺ]
 refine Cq.Zn 8 (λj s=>s=(V.set k (eX ((fW m).map Ν) (List.replicate 8 z) j),(j:Int))) (λj s e d=>?_) (λs d=>?_) (by rw[Zvk,<-g,L6 f];rfl)
 .subst d;have a:j<(List.replicate 8 z).length:=by rw[Ĺ];exact e
  refine Cq.wp.yes ŉ ⟨⟨ŉ,ŉ⟩,Ν (Θ m (j:Int),1),(xL (Ud h e)).2,_,Gp f _,_,vq c a,?_⟩;show _=_;rw[ψ ŉ,ē,ē,List.set_set,<-A4 c a];congr 3;simp[fW]
 subst d;refine Cq.wp.no ĳ ?_;show _=_;rw[EX c (by rw[ć,L5];exact ĉ _)]
theorem Zty{o:Ord}(i:o.length<=100)(h:o.all lZ=true){z:Zf}:(Qj o (List.replicate o.length (List.replicate 8 z),0)).Α (gv (o.map fW)):=by
 rw[Ć]at h;have d:(gv (o.map fW)).length=(List.replicate o.length (List.replicate 8 z)).length:=by unfold gv;rw[List.length_map,List.length_map,List.length_replicate]
 refine Cq.Zn o.length (λk s=>s=(eX (gv (o.map fW)) (List.replicate o.length (List.replicate 8 z)) k,(k:Int))) (λk s f e=>?_) (λs e=>?_) rfl
 .subst e;have a:k<(List.replicate o.length (List.replicate 8 z)).length:=by rw[Ĺ];exact f
  have c:k<(eX (gv (o.map fW)) (List.replicate o.length (List.replicate 8 z)) k).length:=by rw[SQ d];exact a
  have g:(eX (gv (o.map fW)) (List.replicate o.length (List.replicate 8 z)) k)[k]=List.replicate 8 z:=by have:=LO d a;rw[Ą c]at this;rw[Ŧ this,List.getElem_replicate]
  refine Cq.wp.yes ŉ ⟨_,Ξ f,Cq.eY (Zw3 (h _ (ă _)) c g) ?_⟩;show _=_;rw[ψ ŉ,<-A4 d a];congr 3;simp[gv]
 subst e;refine Cq.wp.no ŉ ?_;show _=_;rw[EX d (by rw[d,Ĺ];exact ĉ _)]
def fo(i:Nat):Mq->Nat
 |[]=>0
 |r::l=>if(r.getD i (0,1)).1=0 then fo i l+1 else 0
theorem Lr(i:Nat):∀l:Mq,fo i l<=l.length
 |[]=>ĉ _
 |x::l=>by have:=Lr i l;unfold fo;split<;>simp only[Ě]<;>omega
theorem T1{i:Nat}:∀{l:Mq}{n:Nat}(h:n<l.length),n<fo i l->(l[n].getD i (0,1)).1=0
 |x::l,0,_,h=>by
  unfold fo at h;split at h
  .assumption
  omega
 |x::l,n+1,a,h=>by
  unfold fo at h;split at h
  .exact T1 (l:=l) (by simpa using a) ŉ
  omega
theorem Ts{i:Nat}:∀{l:Mq}(h:fo i l<l.length),(l[fo i l].getD i (0,1)).1≠0
 |x::l,h=>by
  by_cases a:(x.getD i (0,1)).1=0
  .have e:fo i (x::l)=fo i l+1:=ą a;simp only[e,x6];exact Ts (l:=l) (by rw[e]at h;simpa using h)
  have e:fo i (x::l)=0:=ā a;simp only[e,dA];exact a
def n1(V:Mq):Bool:=V.all λr=>decide (r.length=8)&&r.all jQ
theorem Zw7{V:Mq}(h:n1 V=true){r:Ŀ Qn}(hr:r∈V):r.length=8/\∀x∈r,jQ x=true:=by have:=Ć.1 h r hr;rw[Ĉ,Ć]at this;exact⟨ĥ this.1,this.2⟩
theorem pY{r:Ŀ Qn}{i:Nat}(h:i<r.length):r.getD i (0,1)=r[i]:=by rw[Ģ,Ą h];rfl
theorem ZwX{V:Mq}(n:V.length<=100)(h:n1 V=true){i:Nat}(hi:i<8):(ZO (gv V) (i:Int)).Α (if fo i V=V.length then -1 else(fo i V:Int)):=by
 have l:=Lr i V;have d:(gv V).length=V.length:=ć _;have g:∀k (c:k<V.length),(J3 (V[k].map Ν) (i:Int)).Α (decide (¬pe (V[k].getD i (0,1))=0)):=λk c=>by obtain⟨p,m⟩:=Zw7 h (ă c);have Cc:i<V[k].length:=ŉ;rw[pY Cc];exact⟨_,ui Cc,_,(MA (m _ (ă _))).2,rfl⟩
 show(Cq.next _ _).wp _;refine Cq.Zn (fo i V) (λk s=>s=(k:Int)) (λk s c f=>?_) (λs f=>?_) rfl
 .subst f;refine Cq.wp.yes (by rw[d];omega) ⟨V[k].map Ν,⟨ŉ,by simp[gv,show k<V.length by omega]⟩,_,g k ŉ,Cq.wp.no (by rw[Fw.2 (T1 ŉ c)];decide) ?_⟩;show _=_;rw[ψ ŉ]
 subst f;by_cases j:fo i V=V.length
 .rw[ą j];exact Cq.wp.no (by rw[d];omega) rfl
 rw[ā j];have a:fo i V<V.length:=ŉ;exact Cq.wp.yes (by rw[d];omega) ⟨V[fo i V].map Ν,⟨ŉ,by simp[gv,a]⟩,_,g _ a,Cq.wp.yes (Ă λe=>Ts a (Fw.1 e)) rfl⟩
def jk(row rr:Ŀ Qn)(i:Nat):Ŀ Qn:=row.take i++List.zipWith (λx y=>mI x (hK (hK (row.getD i (0,1)) (km (rr.getD i (0,1)))) y)) (row.drop i) (rr.drop i)
def np(row rr:Ŀ Qn)(i:Nat):Bool:=decide (row.length=8)&&decide (rr.length=8)&&row.all jQ&&rr.all jQ&&decide ((rr.getD i (0,1)).1≠0)&&jQ (hK (row.getD i (0,1)) (km (rr.getD i (0,1))))&&(rr.drop i).all λy=>jQ (hK (hK (row.getD i (0,1)) (km (rr.getD i (0,1)))) y)
theorem Fl{row rr:Ŀ Qn}{i:Nat}(a:row.length=8)(h2:rr.length=8):(jk row rr i).length=8:=by unfold jk;rw[Ā,Č,List.length_zipWith,ľ,ľ];omega
theorem Zya{row rr:Ŀ Qn}{i j:Nat}(a:row.length=8)(h2:rr.length=8)(hi:i<=j)(d:j<8):(jk row rr i)[j]'(by rw[Fl a h2];exact d)=mI row[j] (hK (hK (row.getD i (0,1)) (km (rr.getD i (0,1)))) rr[j]):=by
 have c:(jk row rr i)[j]?=some (mI row[j] (hK (hK (row.getD i (0,1)) (km (rr.getD i (0,1)))) rr[j])):=by unfold jk;rw[ģ (by rw[Č];omega),Č,List.getElem?_zipWith,ŧ,ŧ,show i+(j-min i row.length)=j by omega,Ą ŉ,Ą ŉ]
 rw[Ą (by rw[Fl a h2];exact d)]at c;exact Ŧ c
theorem Zwl{V:Ŀ (Ŀ Zf)}{r k i:Nat}{row rr:Ŀ Qn}{e:Int}(j:k<V.length)(hr:r<V.length)(l:k≠r)(hi:i<8)(p:V[k]=row.map Ν)(h2:V[r]=rr.map Ν)(h:np row rr i=true):
  (Qi (r:Int) (k:Int) (Ν (hK (row.getD i (0,1)) (km (rr.getD i (0,1)))),e) (V,(i:Int))).Α (V.set k ((jk row rr i).map Ν)):=by
 unfold np at h
 simp only[Ĉ,Ę,Ć]at h
 obtain⟨⟨⟨⟨⟨⟨c,n⟩,u⟩,q4⟩,q5⟩,v⟩,x⟩:=h
 have a:((jk row rr i).map Ν).length=(row.map Ν).length:=by rw[ć,ć,Fl c n,c]
 have d:eX ((jk row rr i).map Ν) (row.map Ν) i=row.map Ν:=by unfold eX jk;rw[Ī,aaM (by rw[ć,Č];omega),List.map_take,List.take_take,Nat.min_self,Ń]
 refine Cq.Zn (8-i) (λt s=>s=(V.set k (eX ((jk row rr i).map Ν) (row.map Ν) (i+t)),((i+t:Nat):Int))) (λt s y m=>?_) (λs m=>?_) (by rw[ek,d,<-p,L6 j])
 .subst m
  have f:i+t<(row.map Ν).length:=by rw[ć];omega
  have g:i+t<rr.length:=ŉ
  have q:rr[i+t]∈rr.drop i:=by rw[ķ];exact⟨t,by rw[ľ];omega,by rw[List.getElem_drop]⟩
  refine Cq.wp.yes ŉ ⟨_,Gp j _,_,vq a f,V[r],ZAd hr l _,Ν rr[i+t],by rw[h2];exact ui g,_,ZBz v (q4 _ (ă _)),Ν (mI row[i+t] (hK (hK (row.getD i (0,1)) (km (rr.getD i (0,1)))) rr[i+t])),?_,_,Gp j _,_,vq a f,?_⟩
  .rw[ũ]
   exact ZBA (u _ (ă _)) (x _ q)
  show _=_
  rw[ψ ŉ,ē,ē,List.set_set,<-š,<-A4 a f]
  congr 3
  rw[ũ,Zya c n ŉ ŉ]
 subst m
 refine Cq.wp.no ŉ ?_
 show _=_
 rw[EX a (by rw[ć,Fl c n];omega)]
theorem zd(V:Mq):(gv V).length=V.length:=ć _
theorem zr{V:Mq}{k:Nat}(a:k<V.length):(0:Int)<=(k:Int)/\(gv V)[(k:Int).toNat]?=some (V[k].map Ν):=⟨ŉ,by simp[gv,a]⟩
theorem L0(V:Mq)(k:Nat)(r:Ŀ Qn):(gv V).set k (r.map Ν)=gv (V.set k r):=by unfold gv;rw[List.map_set]
theorem getDM{V:Mq}{k:Nat}(h:k<V.length):V.getD k []=V[k]:=by rw[Ģ,Ą h];rfl
def fJ(M:Mq)(r i:Nat):Nat->Mq
 |0=>M
 |t+1=>(fJ M r i t).set (r+1+t) (jk ((fJ M r i t).getD (r+1+t) []) ((fJ M r i t).getD r []) i)
def nZ(M:Mq)(r i:Nat):Bool:=(List.range (M.length-(r+1))).all λt=>np ((fJ M r i t).getD (r+1+t) []) ((fJ M r i t).getD r []) i
theorem Kr(M:Mq)(r i:Nat):∀t,(fJ M r i t).length=M.length
 |0=>rfl
 |t+1=>by have:=Kr M r i t;unfold fJ;rw[ŗ,this]
theorem Ztv{M:Mq}{r i:Nat}(q:M.length<=100)(hr:r<M.length)(hi:i<8)(h:nZ M r i=true):
  (Qh (r:Int) (i:Int) (gv M,((r+1:Nat):Int))).Α (gv (fJ M r i (M.length-(r+1)))):=by
 refine Cq.Zn (M.length-(r+1)) (λt s=>s=(gv (fJ M r i t),((r+1+t:Nat):Int))) (λt s m f=>?_) (λs f=>?_) rfl
 .subst f
  have c:=Ć.1 h t (ĺ.2 m)
  have j:fJ M r i (t+1)=(fJ M r i t).set (r+1+t) (jk ((fJ M r i t).getD (r+1+t) []) ((fJ M r i t).getD r []) i):=rfl
  have p:=Kr M r i t
  generalize fJ M r i t=X at *
  have d:r+1+t<X.length:=ŉ
  have a:r<X.length:=ŉ
  rw[getDM d,getDM a]at c j
  have ot:=c
  unfold np at ot
  simp only[Ĉ,Ę,Ć]at ot
  obtain⟨⟨⟨⟨⟨⟨u,v⟩,n⟩,q4⟩,q5⟩,x⟩,y⟩:=ot
  have l:i<X[r+1+t].length:=ŉ
  have g:i<X[r].length:=ŉ
  have hp:=Zwl (V:=gv X) (e:=0) (r:=r) (k:=r+1+t) (i:=i) (row:=X[r+1+t]) (rr:=X[r]) (by rw[zd];exact d) (by rw[zd];exact a) ŉ hi (by simp[gv]) (by simp[gv]) c
  rw[pY l,pY g]at hp
  rw[pY g]at q5
  refine Cq.wp.yes (by rw[zd];omega) ⟨_,zr d,_,ui l,_,zr a,_,ui g,_,ZBC (n _ (ă _)) (q4 _ (ă _)) q5,Cq.eY hp ?_⟩
  show _=_
  rw[ψ ŉ,L0,j]
  rfl
 subst f
 refine Cq.wp.no (by rw[zd,Kr];omega) ?_
 rfl
def kn(M:Mq)(r f:Nat):Mq:=(M.set r (M.getD (r+f) [])).set (r+f) (M.getD r [])
def qw(s:Mq×Nat)(i:Nat):Mq×Nat:=if fo i (s.1.drop s.2)=(s.1.drop s.2).length then s else(fJ (kn s.1 s.2 (fo i (s.1.drop s.2))) s.2 i (s.1.length-(s.2+1)),s.2+1)
def tb(s:Mq×Nat)(i:Nat):Bool:=n1 s.1&&decide (s.2<=s.1.length)&&decide (s.1.length<=100)&&(decide (fo i (s.1.drop s.2)=(s.1.drop s.2).length) || nZ (kn s.1 s.2 (fo i (s.1.drop s.2))) s.2 i)
def kI(M:Mq):Nat->Mq×Nat
 |0=>(M,0)
 |i+1=>qw (kI M i) i
def qk(M:Mq):Bool:=(List.range 8).all λi=>tb (kI M i) i
theorem Zvw{V:Mq}(h:n1 V=true)(k:Nat):n1 (V.drop k)=true:=Ć.2 λr hr=>Ć.1 h r (List.mem_of_mem_drop hr)
theorem Zv1{o:Ord}(x:o.length<=100)(v:o.all lZ=true)(h:qk (o.map fW)=true):(EZ o).Α ((kI (o.map fW) 8).2:Int):=by
 refine⟨⟨ŉ,ŉ⟩,?_⟩;rw[ē];refine Cq.eY (Zty x v) ?_;show(Cq.next _ _).wp _;generalize o.map fW=M at h;refine Cq.Zn 8 (λi s=>s=(gv (kI M i).1,((kI M i).2:Int),(i:Int))) (λi s hi d=>?_) (λs d=>?_) rfl
 .subst d;have k:=Ć.1 h i (ĺ.2 hi);have t:kI M (i+1)=qw (kI M i) i:=rfl;rw[t];generalize kI M i=S at *;obtain⟨X,r⟩:=S;unfold tb at k;simp only[Ĉ,Ę]at k;obtain⟨⟨⟨n,h2⟩,h3⟩,g⟩:=k;dsimp only at n h2 h3 g⊢;have q:=ZwX (V:=X.drop r) (by rw[ľ];omega) (Zvw n r) hi;have u:gv (X.drop r)=(gv X).drop r:=by unfold gv;rw[List.map_drop]
  rw[u]at q;have l:=Lr i (X.drop r);refine Cq.wp.yes ŉ ⟨⟨ŉ,by rw[zd];omega⟩,_,by rw[ē];exact q,?_⟩;by_cases c:fo i (X.drop r)=(X.drop r).length
  .rw[ą c];refine Cq.wp.yes ĳ ?_;show _=_;rw[ψ ŉ];have j:qw (X,r) i=(X,r):=ą c;rw[j]
  rw[ā c];have j:qw (X,r) i=(fJ (kn X r (fo i (X.drop r))) r i (X.length-(r+1)),r+1):=ā c;rw[Ĵ,Ę]at g;have g:=g.resolve_left c;rw[ľ]at l c;generalize fo i (X.drop r)=f at *;have a:r+f<X.length:=ŉ;have hr:r<X.length:=ŉ;have y:i64.wrap ((r:Int)+(f:Int))=((r+f:Nat):Int):=by rw[wrap64 ŉ];omega
  have d:kn X r f=(X.set r X[r+f]).set (r+f) X[r]:=by unfold kn;rw[getDM a,getDM hr]
  have m:(kn X r f).length=X.length:=by rw[d,ŗ,ŗ]
  have p:=Ztv (M:=kn X r f) (r:=r) (i:=i) ŉ ŉ hi g;rw[m]at p;refine Cq.wp.no ŉ ?_;rw[y];refine⟨_,zr a,_,zr hr,_,zr hr,(if r=r+f then X[r+f].map Ν else X[r+f].map Ν),⟨ŉ,?_⟩,?_⟩
  .rw[ē,ē,aac];by_cases e:r=r+f
   .rw[ą e,ą (by rw[zd];exact hr),ą e]
   rw[ā e,ā e];have:=(zr a).2;rwa [ē]at this
  rw[ē,ē,L0,L0,<-d,ψ ŉ];refine Cq.eY p ?_;show _=_;rw[ψ ŉ,ψ ŉ,j]
 subst d;exact Cq.wp.no ĳ rfl
end Go.EL

namespace Go.EL
open Go.IntKind (i8 i16 i32 i64 u8 u16 u32 u64)
open Go Go.RowKit
theorem gD.b{n:Nat}{π:M}(h:gD n π):jH n π=true:=by unfold jH;simp only[Ĉ,Ę];exact⟨⟨h.perm.ow,h.perm.inj⟩,h.fix⟩
theorem SY(π:M):à π []=[]:=rfl
theorem Zyt{n:Nat}(a:1<=n/\n<=4){p:Ú}(hp:ω p):à (λi=>(i.val:Int)) p=p:=by
 have hi:=(Zz5 a).perm;refine KS hi hp.ord hp.ord (abC ?_);refine((ŭ λt _=>?_).trans (List.map_id _)).symm;show jn _ t=t;unfold jn;have:fx (λi:Fin 8=>(i.val:Int)) t.m=t.m:=by funext j;exact ue hi _ j j rfl
 rw[this]
end Go.EL

namespace Go.EL
open Go.IntKind (i8 i16 i32 i64 u8 u16 u32 u64)
open Go Go.RowKit
def pc(m:Nat):Fin 8->Int:=λi=>if m.testBit i.val then 1 else 0
def jo(k:Nat)(w:Int):Fin 8->Int:=λi=>if i.val=k then w else 0
def o9:Ord:=[pc 255,jo 7 (-1),jo 6 (-1),jo 5 (-1),jo 4 (-1),jo 3 (-1),jo 2 (-1),jo 1 (-1)]
def gR:Ord:=(List.range 8).map λk=>jo k 1
def OG:Ord:=[λi=>if i.val=0 then 2 else if i.val=1 then 3 else 1]
def OH:Ord:=[λi=>if i.val<2 then 1 else 0,λi=>if i.val=0 then 1 else if i.val=1 then 0 else if i.val=2 then 2 else 1]
def l4(k:Nat):Ord:=match k % 8 with
 |0=>[]
 |1=>[pc 255]
 |2=>o9
 |3=>o9
 |4=>OG
 |5=>OH
 |_=>pc (k / 8 % 16)::o9
theorem UO:ES.Α o9:=Zs (n:=20) (by decide +kernel)
theorem TX:(á 0 15 λm=>runs 20 (Jy m) (pc m.toNat::o9))=true:=by decide +kernel
theorem Zvo:E4.Α [pc 255]:=Zs (n:=5) (by decide +kernel)
theorem ZBd:([ζ (ζ (ζ (ζ (ζ (ζ (ζ (ζ (λ_=>0) 0 2) 1 3) 2 1) 3 1) 4 1) 5 1) 6 1) 7 1]:Ord)=OG:=by decide +kernel
theorem ZBe:([ζ (ζ (ζ (ζ (ζ (ζ (ζ (ζ (λ_=>0) 0 1) 1 1) 2 0) 3 0) 4 0) 5 0) 6 0) 7 0,ζ (ζ (ζ (ζ (ζ (ζ (ζ (ζ (λ_=>0) 0 1) 1 0) 2 2) 3 1) 4 1) 5 1) 6 1) 7 1]:Ord)=OH:=by decide +kernel
theorem TO{k:Nat}(h:k<=255):(xw (k:Int)).Α (l4 k):=by
 have f:Int.tmod (k:Int) 8=((k % 8:Nat):Int):=rfl;have a:Int.tmod (u8.wrap (Int.tdiv (k:Int) 8)) 16=((k / 8 % 16:Nat):Int):=by have c:Int.tdiv (k:Int) 8=((k / 8:Nat):Int):=rfl;rw[c,HV,show((k / 8:Nat):Int) % 256=((k / 8:Nat):Int) by omega];rfl
 have d:=x8 k (show 0<8 by decide);have e:=x8 (k / 8) (show 0<16 by decide);unfold xw ET l4;rw[f];generalize g:k % 8=j at *;match j,d with
 |0,_=>exact Cq.wp.yes rfl ⟨_,rfl,rfl⟩
 |1,_=>exact Cq.wp.no ĳ (Cq.wp.yes rfl ⟨_,Zvo,rfl⟩)
 |2,_=>exact Cq.wp.no ĳ (Cq.wp.no ĳ (Cq.wp.yes rfl (Cq.wp.yes rfl ⟨_,UO,rfl⟩)))
 |3,_=>exact Cq.wp.no ĳ (Cq.wp.no ĳ (Cq.wp.no ĳ (Cq.wp.yes rfl ⟨_,UO,rfl⟩)))
 |4,_=>
  refine Cq.wp.no ĳ (Cq.wp.no ĳ (Cq.wp.no ĳ (Cq.wp.no ĳ ?_)));exact Cq.wp.yes rfl ZBd
 |5,_=>
  refine Cq.wp.no ĳ (Cq.wp.no ĳ (Cq.wp.no ĳ (Cq.wp.no ĳ ?_)));exact Cq.wp.no ĳ (Cq.wp.yes rfl ZBe)
 |6,_=>
  refine Cq.wp.no ĳ (Cq.wp.no ĳ (Cq.wp.no ĳ (Cq.wp.no ĳ ?_)));rw[a];exact Cq.wp.no ĳ (Cq.wp.no ĳ ⟨_,Zs (Zq TX ŉ ŉ),rfl⟩)
 |7,_=>
  refine Cq.wp.no ĳ (Cq.wp.no ĳ (Cq.wp.no ĳ (Cq.wp.no ĳ ?_)));rw[a];exact Cq.wp.no ĳ (Cq.wp.no ĳ ⟨_,Zs (Zq TX ŉ ŉ),rfl⟩)
def kV:Ŀ Ord:=[[],[pc 255],o9,OG,OH]++(List.range 16).map λm=>pc m::o9
theorem Uj{k:Nat}:l4 k∈kV:=by
 unfold l4;have h2:=x8 (k / 8) (show 0<16 by decide);unfold kV;rw[Ĩ];split
 .exact .inl ß
 .exact .inl ß
 .exact .inl ß
 .exact .inl ß
 .exact .inl ß
 .exact .inl ß
 exact .inr (Ğ.2 ⟨_,ĺ.2 h2,rfl⟩)
def eJ(o:Ord):Ord:=if(õ o o.length).length=8 then o else o++gR
def dQ(π:Fin 8->Int)(o:Ord):Ord:=o.map (fx π)
def sh(o:Ord)(k:Fin 8):Bool:=match(o.map λm=>m k).find? λx=>x != 0 with
 |some x=>decide (0<x)
 |none=>true
def mF(o:Ord):Bool:=o.all lZ&&decide (o.length<=24)&&decide (∀k,sh o k=true)&&sS o&&qk (o.map fW)&&decide ((kI (o.map fW) 8).2=(õ o o.length).length)
theorem Zz2:(kV.all λo=>mF o&&decide ((õ o o.length).length=8\/o.length<=16))=true:=by decide +kernel
end Go.EL

namespace Go.EL
open Go.IntKind (i8 i16 i32 i64 u8 u16 u32 u64)
open Go Go.RowKit
def sN(o:Ord):Bool:=mF o&&Nat.beq (õ o o.length).length 8
def n4(k:Nat):Bool:=((kV.drop (3*k)).take 3).all λo=>(Δ 3).all λπ=>sN (dQ π (eJ o))
theorem CZ:n4 0=true:=by decide +kernel
theorem C0:n4 1=true:=by decide +kernel
theorem C1:n4 2=true:=by decide +kernel
theorem C2:n4 3=true:=by decide +kernel
theorem C3:n4 4=true:=by decide +kernel
theorem C4:n4 5=true:=by decide +kernel
theorem C5:n4 6=true:=by decide +kernel
theorem l6{α:Type}{l:Ŀ α}{p:α->Prop}(k:Nat)(h:∀x∈(l.drop (3*k)).take 3,p x)(h2:∀x∈l.drop (3*(k+1)),p x):∀x∈l.drop (3*k),p x:=λx a=>by
 rw[<-Ń 3 (l.drop (3*k)),Ĩ]at a;rcases a with a|a
 .exact h x a
 rw[abM]at a;exact h2 x a
theorem xI{k:Nat}(h:n4 k=true):∀o∈(kV.drop (3*k)).take 3,∀π∈Δ 3,sN (dQ π (eJ o))=true:=λo c π a=>Ć.1 (Ć.1 h o c) π a
theorem Tq:∀o∈kV,∀π∈Δ 3,sN (dQ π (eJ o))=true:=
 l6 0 (xI CZ)<|l6 1 (xI C0)<|l6 2 (xI C1)<|l6 3 (xI C2)<|l6 4 (xI C3)<|l6 5 (xI C4)<|l6 6 (xI C5) λo a=>by
  have e:kV.drop 21=[]:=by decide +kernel
  have a:o∈kV.drop 21:=a;rw[e]at a;cases a
end Go.EL

namespace Go.EL
open Go.IntKind (i8 i16 i32 i64 u8 u16 u32 u64)
open Go Go.RowKit
def gj(l:Ŀ Int):Int:=match l.find? λx=>x != 0 with
 |some x=>x
 |none=>0
theorem Rt(l:Ŀ Int)(x:Int):gj (l++[x])=if gj l=0 then x else gj l:=by
 unfold gj;rw[abh];cases h:l.find? λx=>x != 0 with
 |none=>
  simp only[Option.none_or];rw[ą trivial];by_cases a:x=0
  .subst a;rfl
  rw[List.find?_cons_of_pos (by simpa using a)]
 |some y=>
  have:=aaj h;simp only[Option.some_or];rw[ā (by simpa using this)]
theorem Ztu{o:Ord}{k:Fin 8}(h:sh o k=true):0<=gj (o.map λm=>m k):=by
 unfold sh at h;unfold gj;cases a:(o.map λm=>m k).find? λx=>x != 0 with
 |some x=>
  rw[a]at h;have:=ĥ h;dsimp only;omega
 |none=>exact Ō _
theorem Zvm{l m:Ŀ Int}(h:0<=gj (l++m)):0<=gj l:=by
 unfold gj at h⊢;rw[abh]at h;cases a:l.find? λx=>x != 0 with
 |none=>exact Ō _
 |some y=>rw[a]at h;exact h
structure kM (o:Ord):Prop where
 row:∀m∈o,∀k,-1<=m k/\m k<=3
 len:o.length<=24
 V4:∀k:Fin 8,0<=gj (o.map λm=>m k)
theorem kM.of{o:Ord}(h:mF o=true):kM o:=by unfold mF at h;simp only[Ĉ,Ę,Ć]at h;obtain⟨⟨⟨⟨⟨a,h2⟩,h3⟩,_⟩,_⟩,_⟩:=h;exact⟨λm c k=>ĥ (a m c) k,h2,λk=>Ztu (h3 k)⟩
theorem Ql{o:Ord}{i:Nat}(hi:i<o.length)(f:(Fin 8->Int)->Int):(o.take (i+1)).map f=(o.take i).map f++[f o[i]]:=by rw[č hi,Ī];rfl
theorem EI{o:Ord}(h:kM o):(yX o).Α true:=by
 have g:=h.len;refine Cq.wp.no ŉ ?_;show(Cq.next _ _).wp _;refine Cq.Zn 8 (λk s=>s=(k:Int)) (λk s a c=>?_) (λs c=>?_) rfl
 .subst c;refine Cq.wp.yes ŉ ?_;show(Cq.next _ _).wp _;refine Cq.Zn o.length (λi s=>s=(gj ((o.take i).map λm=>m ⟨k,a⟩),(i:Int))) (λi s hi c=>?_) (λs c=>?_) rfl
  .subst c;have hr:=h.row _ (ă hi) ⟨k,a⟩;have f:Θ o[i] (k:Int)=o[i] ⟨k,a⟩:=Ö a;refine Cq.wp.yes ŉ ⟨_,Ξ hi,⟨ŉ,ŉ⟩,Cq.wp.no (by rw[f];omega) ⟨_,Ξ hi,⟨ŉ,ŉ⟩,Cq.wp.no (by rw[f];omega) ?_⟩⟩;have e:=Rt ((o.take i).map λm=>m ⟨k,a⟩) (o[i] ⟨k,a⟩);rw[<-Ql hi (λm=>m ⟨k,a⟩)]at e;by_cases d:gj ((o.take i).map λm=>m ⟨k,a⟩)=0
   .refine Cq.wp.yes d ⟨_,Ξ hi,⟨ŉ,ŉ⟩,?_⟩;show _=_;rw[ψ ŉ,f,e,ą d]
   refine Cq.wp.no d ?_;show _=_;rw[ψ ŉ,e,ā d]
  subst c;refine Cq.wp.no ŉ ?_;have:=h.V4 ⟨k,a⟩;rw[Ĥ];refine Cq.wp.no ŉ ?_;show _=_;rw[ψ ŉ]
 subst c;exact Cq.wp.no ĳ rfl
def sZ(l:Ord):Fin 8->Bool:=λk=>l.any λm=>decide (¬m k=0)
def jI(b:Fin 8->Bool)(m:Fin 8->Int)(n:Nat):Fin 8->Bool:=λk=>if k.val<n then b k || decide (¬m k=0)else b k
theorem Cb{f:Fin 8->Bool}{k:Nat}(a:k<8):Θ f (k:Int)=f ⟨k,a⟩:=zo f (by rw[ē];exact a)
theorem ZvQ{b:Fin 8->Bool}{m:Fin 8->Int}{n:Nat}(a:n<8):ζ (jI b m n) n (b ⟨n,a⟩ || decide (¬m ⟨n,a⟩=0))=jI b m (n+1):=by
 funext k;unfold ζ jI;by_cases e:k.val=n
 .have:k=⟨n,a⟩:=abd e;subst this;rw[ą rfl,ą (ů _)]
 rw[ā e];by_cases h:k.val<n
 .rw[ą h,ą ŉ]
 rw[ā h,ā ŉ]
theorem ZyK{m:Fin 8->Int}{b:Fin 8->Bool}(h:∀k,-1<=m k/\m k<=3)(j:∀k,m k<0->b k=true):(PR m (0,b)).Α (.inr (jI b m 8)):=by
 refine Cq.Zn 8 (λk s=>s=((k:Int),jI b m k)) (λk s c d=>?_) (λs d=>?_) (by show _=_;congr 1)
 .subst d;have hr:=h ⟨k,c⟩;have f:Θ m (k:Int)=m ⟨k,c⟩:=Ö c;have d:Θ (jI b m k) (k:Int)=b ⟨k,c⟩:=by rw[Cb c];unfold jI;rw[if_neg (Nat.lt_irrefl _)]
  have i:(Eg m (k:Int) (jI b m k)).wp (Out (λs'=>s'=(((k+1:Nat):Int),jI b m (k+1))) λo=>o=.inr (jI b m 8)):=by
   refine⟨⟨ŉ,ŉ⟩,?_⟩;have e:=ZvQ (b:=b) (m:=m) c;by_cases a:b ⟨k,c⟩=true
   .refine Cq.wp.yes (by rw[d];exact a) ⟨⟨ŉ,ŉ⟩,?_⟩;show _=_;rw[ψ ŉ,<-e,a];rfl
   refine Cq.wp.no (by rw[d];exact a) ⟨⟨ŉ,ŉ⟩,?_⟩;show _=_;rw[ψ ŉ,<-e,Ź.2 a,f];rfl
  refine Cq.wp.yes ŉ ⟨⟨ŉ,ŉ⟩,Cq.wp.no (by rw[f];omega) (Cq.wp.no (by rw[f];omega) ?_)⟩;by_cases g:m ⟨k,c⟩<0
  .refine Cq.wp.yes (by rw[f];exact g) ⟨⟨ŉ,ŉ⟩,Cq.wp.no (by rw[d,j _ g];decide) i⟩
  exact Cq.wp.no (by rw[f];exact g) i
 subst d;exact Cq.wp.no ĳ rfl
theorem Fe{o:Ord}(h:kM o):(yI o).Α true:=by
 have l:=h.len;refine Cq.wp.no ŉ ?_;show(Cq.next _ _).wp _;refine Cq.Zn o.length (λi s=>s=((i:Int),sZ (o.take i))) (λi s hi e=>?_) (λs e=>?_) rfl
 .subst e;refine Cq.wp.yes ŉ ⟨_,Ξ hi,Cq.eY (ZyK (h.row _ (ă hi)) λk j=>?_) ?_⟩
  .have a:=h.V4 k;rw[<-Ń (i+1) o,Ī]at a;have a:=Zvm a;rw[Ql hi (λm=>m k),Rt]at a;by_cases c:gj ((o.take i).map λm=>m k)=0
   .rw[ą c]at a;omega
   unfold sZ;rw[dV];unfold gj at c;cases d:((o.take i).map λm=>m k).find? λx=>x != 0 with
   |none=>rw[d]at c;exact absurd rfl c
   |some y=>
    have f:=ej d;have h2:=aaj d;obtain⟨m,g,rfl⟩:=Ğ.1 f;exact⟨m,g,by simpa using h2⟩
  show _=_;rw[ψ ŉ,č hi];congr 2;funext k;unfold jI sZ;rw[ą k.isLt,List.any_append];simp
 subst e;exact Cq.wp.no ŉ rfl
theorem Zyp:(á 0 7 λk=>runs 20 (KQ (u8.wrap (1*2 ^ (min k.toNat u8.bits)))) (jo k.toNat 1))=true:=by decide +kernel
theorem ZyS{k:Nat}(a:k<8):(FU (k:Int) 1).Α (jo k 1):=⟨⟨ŉ,ŉ⟩,by
 show _=_;funext i;unfold ζ jo;rw[ē]⟩
theorem Q8(o:Ord){k:Nat}(a:k<8):o++gR.take (k+1)=(o++gR.take k)++[jo k 1]:=by
 have c:k<gR.length:=by simpa[gR]using a
 rw[č c,Đ];simp[gR]
theorem Zxl{o:Ord}(h:mF o=true):(EZ o).Α ((õ o o.length).length:Int)/\(FT o).Α ((õ o o.length).length:Int):=by unfold mF at h;simp only[Ĉ,Ę]at h;obtain⟨⟨⟨⟨⟨a,h2⟩,_⟩,c⟩,d⟩,e⟩:=h;exact⟨by have:=Zv1 ŉ a d;rwa [e]at this,Zv9 ŉ c⟩
theorem ZxP{o:Ord}(h:mF o=true)(j:(õ o o.length).length=8\/o.length<=16):(KP o).Α (eJ o,0)/\(LA o).Α (eJ o,0):=by
 have i:=kM.of h;obtain⟨m,n⟩:=Zxl h;have p:=i.len;have d:([]++o).length<=small:=by rw[ļ];simp only[small];omega
 have l:gR.take 8=gR:=ě (by simp[gR]);constructor
 .refine⟨_,Fe i,Cq.wp.no ĳ ⟨o,⟨λe=>by rw[e];rfl,d,rfl⟩,_,m,?_⟩⟩;by_cases a:(õ o o.length).length=8
  .refine Cq.wp.yes ŉ ?_;show _=_;unfold eJ;rw[ą a]
  have g:=j.resolve_left a;refine Cq.wp.no ŉ (Cq.wp.no (by rw[wrap64 ŉ];omega) ?_);show(Cq.next _ _).wp _;refine Cq.Zn 8 (λk s=>s=(o++gR.take k,(k:Int))) (λk s f c=>?_) (λs c=>?_) (by show _=_;simp)
  .subst c;have:=Zs (Zq Zyp (x:=(k:Int)) ŉ ŉ);refine Cq.wp.yes ŉ ⟨ŉ,_,this,by simp only[Ā,Č,Ě,Ļ];simp only[small];omega,?_⟩;show _=_;rw[ψ ŉ,Q8 o f];rfl
  subst c;refine Cq.wp.no ĳ ?_;show _=_;unfold eJ;rw[ā a,l]
 refine⟨_,EI i,Cq.wp.no ĳ ⟨d,_,n,?_⟩⟩;by_cases a:(õ o o.length).length=8
 .refine Cq.wp.yes ŉ ?_;show _=_;unfold eJ;rw[ą a];rfl
 have g:=j.resolve_left a;refine Cq.wp.no ŉ (Cq.wp.no ŉ ?_);show(Cq.next _ _).wp _;refine Cq.Zn 8 (λk s=>s=(o++gR.take k,(k:Int))) (λk s f c=>?_) (λs c=>?_) (by show _=_;simp)
 .subst c;refine Cq.wp.yes ŉ ⟨_,ZyS f,by simp only[Ā,Č,Ě,Ļ];simp only[small];omega,?_⟩;show _=_;rw[ψ ŉ,Q8 o f]
 subst c;refine Cq.wp.no ĳ ?_;show _=_;unfold eJ;rw[ā a,l]
theorem ZyA{π:Fin 8->Int}(h:Ì π){V:Ord}{k:Nat}(d:k<V.length)(e:V[k]=λ_=>0)(m:Fin 8->Int):(Pk π (k:Int) m (V,0)).Α (V.set k (fx π m)):=by
 refine Cq.Zn 8 (λj s=>s=(V.set k (ef π m j),(j:Int))) (λj s a c=>?_) (λs c=>?_) (by show _=_;rw[show ef π m 0=V[k]from e.symm,L6 d];rfl)
 .subst c;have r:=h.ow ⟨j,a⟩;refine Cq.wp.yes ŉ ⟨⟨ŉ,ŉ⟩,⟨ŉ,ŉ⟩,_,Gp d _,by rw[Ö a];exact r,?_⟩;show _=_;rw[ψ ŉ,Ö a,Ö a,ē,List.set_set];simp only[ef,Ŷ a]
 subst c;exact Cq.wp.no ĳ rfl
theorem SX{π:Fin 8->Int}(c:Ì π){o:Ord}(h:mF o=true)(v:(õ o o.length).length=8\/o.length<=16):(J2 o π).Α (dQ π (eJ o),0)/\(Kk o π).Α (dQ π (eJ o),0):=by
 have t:=kM.of h;obtain⟨f1,f2⟩:=ZxP h v;have x:(eJ o).length<=40:=by
  have:=t.len;unfold eJ;split
  .omega
  rw[Ā];simp[gR];omega
 generalize eJ o=F at *;constructor
 .refine⟨_,Fe t,Cq.wp.no ĳ ?_⟩;show(Cq.next _ _).wp _;refine Cq.Zn 8 (λk s=>∃p:Fin 8->Bool,s=((k:Int),p)/\∀j,p j=true->∃i:Fin 8,i.val<k/\(j.val:Int)=π i) (λk s d a=>?_) (λs a=>?_) ⟨_,rfl,λj f=>by cases f⟩
  .obtain⟨p,rfl,q⟩:=a;have r:=c.ow ⟨k,d⟩;refine Cq.wp.yes ŉ ⟨⟨ŉ,ŉ⟩,?_⟩;rw[Ö d];refine Cq.wp.no ŉ (Cq.wp.no ŉ ⟨r,Cq.wp.no (Gn c d q) ⟨r,?_⟩⟩);rw[ψ ŉ];exact⟨_,rfl,Fv c d q⟩
  obtain⟨p,rfl,q⟩:=a;refine Cq.wp.no ĳ ?_;show(Pm o π).wp _;refine⟨_,f1,Cq.wp.no (λe=>e rfl) ⟨⟨ŉ,by show((F.length:Nat):Int)<=1000000;omega⟩,?_⟩⟩;rw[ē];show(Cq.next _ _).wp _;have n:(dQ π F).length=(List.replicate F.length (λ_:Fin 8=>(0:Int))).length:=by unfold dQ;rw[List.length_map,List.length_replicate]
  refine Cq.Zn F.length (λk s=>s=(eX (dQ π F) (List.replicate F.length (λ_=>0)) k,(k:Int))) (λk s d a=>?_) (λs a=>?_) rfl
  .subst a;have g:k<(List.replicate F.length (λ_:Fin 8=>(0:Int))).length:=by rw[Ĺ];exact d
   have l:k<(eX (dQ π F) (List.replicate F.length (λ_=>0)) k).length:=by rw[SQ n];exact g
   have u:(eX (dQ π F) (List.replicate F.length (λ_=>0)) k)[k]=λ_=>0:=by have:=LO n g;rw[Ą l]at this;rw[Ŧ this,List.getElem_replicate]
   refine Cq.wp.yes (by show(k:Int)<((F.length:Nat):Int);omega) ⟨_,Ξ d,Cq.eY (ZyA c l u F[k]) ?_⟩;show _=_;rw[ψ ŉ,<-A4 n g];congr 3;simp[dQ]
  subst a;refine Cq.wp.no (by show ¬(F.length:Int)<((F.length:Nat):Int);omega) ?_;show _=_;rw[EX n (by rw[n,Ĺ];exact ĉ _)]
 refine⟨_,EI t,Cq.wp.no ĳ ⟨_,ZlS c,Cq.wp.no ĳ ⟨_,f2,Cq.wp.no (λe=>e rfl) ?_⟩⟩⟩;show(Cq.next _ _).wp _;refine Cq.Zn F.length (λk s=>s=(dQ π (F.take k),(k:Int))) (λk s d a=>?_) (λs a=>?_) rfl
 .subst a;have m:(PI π (F,0) (k:Int) (0,λ_=>0)).Α (fx π F[k]):=by
   refine Cq.Zn 8 (λj s=>s=((j:Int),ef π F[k] j)) (λj s f a=>?_) (λs a=>?_) rfl
   .subst a;have r:=c.ow ⟨j,f⟩;refine Cq.wp.yes ŉ ⟨⟨ŉ,ŉ⟩,F[k],Ξ d,⟨ŉ,ŉ⟩,by rw[Ö f];exact r,?_⟩;show _=_;rw[ψ ŉ,Ö f,Ö f];simp only[ef,Ŷ f]
   subst a;exact Cq.wp.no ĳ rfl
  refine Cq.wp.yes (by show(k:Int)<((F.length:Nat):Int);omega) (Cq.eY m ⟨by unfold dQ;simp only[List.length_append,List.length_map,List.length_take,List.length_cons,List.length_nil];simp only[small];omega,?_⟩);show _=_;rw[ψ ŉ,č d];unfold dQ;rw[Ī];rfl
 subst a;refine Cq.wp.no (by show ¬(F.length:Int)<((F.length:Nat):Int);omega) ?_;show _=_;rw[Ĥ]
end Go.EL

namespace Go.EL
open Go.IntKind (i8 i16 i32 i64 u8 u16 u32 u64)
open Go Go.RowKit
theorem Zxg:(((Δ 1)++(Δ 2)).all λπ=>(Δ 3).any λσ=>decide (σ=π))=true:=by decide +kernel
theorem yj{n:Nat}(h:1<=n/\n<=3){π:Fin 8->Int}(a:π∈Δ n):π∈Δ 3:=by
 have key:∀σ∈Δ 1++Δ 2,σ∈Δ 3:=λσ c=>by obtain⟨τ,d,h2⟩:=dV.1 (Ć.1 Zxg σ c);rw[<-ĥ h2];exact d
 match n,h with
 |1,_=>exact key _ (List.mem_append_left _ a)
 |2,_=>exact key _ (List.mem_append_right _ a)
 |3,_=>exact a
def kd(o:Ord):Prop:=o∈kV\/∃f∈kV,∃π∈Δ 3,o=dQ π (eJ f)
theorem R5{o:Ord}(h:sN o=true):mF o=true/\(õ o o.length).length=8:=by unfold sN at h;rw[Ĉ]at h;exact⟨h.1,ĵ h.2⟩
theorem kd.b{o:Ord}(h:kd o):mF o=true/\((õ o o.length).length=8\/o.length<=16):=by
 rcases h with h|⟨f,d,π,a,rfl⟩
 .have:=Ć.1 Zz2 o h;rw[Ĉ,Ę]at this;exact this
 obtain⟨c,h2⟩:=R5 (Tq f d π a);exact⟨c,.inl h2⟩
theorem ZvE{σ τ:Fin 8->Int}(a:σ∈Δ 3)(c:τ∈Δ 3)(o:Ord):dQ σ (dQ τ o)=dQ (gV σ τ) o:=by unfold dQ;rw[aaa];exact ŭ λm _=>R8 ⟨ĳ,ĳ⟩ a c m
theorem kd.full{o:Ord}(h:kd o):eJ (eJ o)=eJ o/\∀π∈Δ 3,kd (dQ π (eJ o))/\eJ (dQ π (eJ o))=dQ π (eJ o):=by
 have key:∀f∈kV,∀π∈Δ 3,eJ (dQ π (eJ f))=dQ π (eJ f):=λf d π a=>by obtain⟨l,h2⟩:=R5 (Tq f d π a);exact ą h2
 have e:(λi:Fin 8=>(i.val:Int))∈Δ 3:=by rw[vw];exact aao
 have g:∀o:Ord,dQ (λi=>(i.val:Int)) o=o:=λo=>by unfold dQ;have:∀m∈o,fx (λi=>(i.val:Int)) m=m:=λm _=>funext λj=>ue (oi ⟨ĳ,ĳ⟩ e).perm m j j rfl;rw[ŭ this,List.map_id']
 rcases h with h|⟨f,d,τ,c,rfl⟩
 .refine⟨?_,λπ a=>⟨.inr ⟨o,h,π,a,rfl⟩,key o h π a⟩⟩;have:=key o h _ e;rwa [g]at this
 rw[key f d τ c];refine⟨key f d τ c,λπ a=>?_⟩;rw[ZvE a c];have k:=(mV (n:=3) ⟨ĳ,ĳ⟩ c).1 π a;exact⟨.inr ⟨f,d,_,k,rfl⟩,key f d _ k⟩
structure fa (q:Zc):Prop where
 p:ω q.p
 o:kd q.o
theorem fa.w{q:Zc}(h:fa q):rR q:=⟨h.p,by have:=(kM.of h.o.b.1).len;omega⟩
theorem fa.nil(kind:Int):fa ⟨kind,[],[]⟩:=⟨(ω.of ĳ:ω []),.inl (by unfold kV;simp)⟩
theorem Fy{p:Ú}{n:Nat}:lJ n p↔(ð p).toNat<2 ^ n:=by
 rw[<-yQ,Ů];constructor
 .intro h;rcases eH.1 h with h|h
  .have:=aab n;omega
  exact h
 exact aaI
def fj(k:Zb)(q:Zc):Bool:=decide (1<=q.kind/\q.kind<=10)&&Ñ q.p k.n&&(decide (q.kind=1\/q.kind=7\/q.kind=9) || decide (q.p=[]))&&(decide (q.kind=3) || decide (q.o=[]))
theorem Se(q:Zc):(Ee q).Α (decide (q.kind=1\/q.kind=7\/q.kind=9) || decide (q.p=[])):=by
 have e:decide ((q.p.length:Int)=0)=decide (q.p=[]):=by
  cases q.p with
  |nil=>rfl
  |cons a l=>simp;omega
 by_cases c:q.kind=1
 .exact Cq.wp.yes c (Cq.wp.yes c (by show _=_;rw[Ă (Or.inl c)];rfl))
 by_cases h7:q.kind=7
 .exact Cq.wp.no c (Cq.wp.yes h7 (Cq.wp.yes h7 (by show _=_;rw[Ă (Or.inr (Or.inl h7))];rfl)))
 by_cases d:q.kind=9
 .exact Cq.wp.no c (Cq.wp.no h7 (Cq.wp.yes d (by show _=_;rw[Ă (Or.inr (Or.inr d))];rfl)))
 refine Cq.wp.no c (Cq.wp.no h7 (Cq.wp.no d ?_));show _=_;rw[e,ċ (p:=q.kind=1\/_) ŉ,Ľ]
theorem ZvL{q:Zc}(h:fa q):(J8 q).Α ((decide (q.kind=1\/q.kind=7\/q.kind=9) || decide (q.p=[]))&&(decide (q.kind=3) || decide (q.o=[]))):=by
 refine⟨true,Fe (kM.of h.o.b.1),?_⟩;cases c:q.o with
 |nil=>
  refine Cq.wp.no ĳ ?_;rw[Ă (p:=([]:Ord)=[]) rfl,abA,abO];exact Se q
 |cons a l=>
  refine Cq.wp.yes (by rw[Ě];omega) ?_;rw[ċ (p:=a::l=[]) ß,abP];by_cases h3:q.kind=3
  .refine Cq.wp.no (λe=>e h3) ?_;rw[Ă h3,abO];exact Se q
  refine Cq.wp.yes h3 ?_;show _=_;rw[ċ h3,Bool.and_false]
theorem Ss{k:Zb}(v:1<=k.n/\k.n<=4){q:Zc}(h:fa q):(E1 k q).Α (fj k q):=by
 unfold fj;by_cases i:q.kind<1
 .refine Cq.wp.yes i ?_;show _=_;rw[ċ (p:=1<=q.kind/\_) ŉ];rfl
 by_cases c:10<q.kind
 .refine Cq.wp.no i (Cq.wp.yes c ?_);show _=_;rw[ċ (p:=1<=q.kind/\_) ŉ];rfl
 rw[Ă (p:=1<=q.kind/\q.kind<=10) ŉ,Ť];refine Cq.wp.no i (Cq.wp.no c ⟨true,D4 h.p,_,yG h.p,?_⟩);obtain⟨n,s⟩:∃n:Nat,k.n=(n:Int):=⟨k.n.toNat,ŉ⟩;rw[s]at v⊢;have nM:1<=n/\n<=4:=ŉ;by_cases m:12<gi q.p
 .refine Cq.wp.yes m ?_;show _=_;have:Ñ q.p (n:Int)=false:=by
   cases j:Ñ q.p (n:Int)with
   |false=>rfl
   |true=>have:=(Fo j).2;omega
  rw[this];rfl
 refine Cq.wp.no m ⟨_,FZ h.p.len,ŉ,?_⟩;have x:=uf q.p;have d:∀t∈q.p,fH t.m<=12:=(tE ĳ).1 ŉ;have a:(Int.fdiv (ð q.p) (2 ^ (min (n:Int).toNat u8.bits))=0)↔(ð q.p).toNat<2 ^ n:=by
  obtain⟨u,l⟩:∃u:Nat,ð q.p=(u:Int):=⟨(ð q.p).toNat,ŉ⟩;have r:Int.fdiv (ð q.p) (2 ^ (min (n:Int).toNat u8.bits))=((u / 2 ^ n:Nat):Int):=by rw[l,ē,ż (show n<=u8.bits from ň nM.2 ĳ),aae _ (Int.le_of_lt (Int.pow_pos ĳ))];push_cast;rfl
  rw[r,l,ē];have hp:=aab n;constructor
  .intro g;have g:u / 2 ^ n=0:=ŉ;rcases eH.1 g with h|h
   .omega
   exact h
  intro g;rw[aaI g];rfl
 by_cases f:(ð q.p).toNat<2 ^ n
 .refine Cq.wp.no (λe=>e (a.2 f)) ?_;rw[(pC ŉ).2 ⟨Fy.2 f,d⟩,Ť];exact ZvL h
 refine Cq.wp.yes (λe=>f (a.1 e)) ?_;show _=_;have:Ñ q.p (n:Int)=false:=by
  cases j:Ñ q.p (n:Int)with
  |false=>rfl
  |true=>exact absurd (Fy.1 ((pC ŉ).1 j).1) f
 rw[this];rfl
end Go.EL

namespace Go.EL
open Go.IntKind (i8 i16 i32 i64 u8 u16 u32 u64)
open Go Go.RowKit
theorem LI(kind:Int):(Es kind).Α (decide (kind=1\/kind=7\/kind=9)):=by
 by_cases a:kind=1
 .exact Cq.wp.yes a (by show _=_;rw[Ă (Or.inl a)])
 by_cases h7:kind=7
 .exact Cq.wp.no a (Cq.wp.yes h7 (by show _=_;rw[Ă (Or.inr (Or.inl h7))]))
 refine Cq.wp.no a (Cq.wp.no h7 ?_);show _=_;by_cases c:kind=9
 .rw[Ă c,Ă (p:=kind=1\/_) ŉ]
 rw[ċ c,ċ (p:=kind=1\/_) ŉ]
theorem Zto(q:Zc):(J0 q).Α ((decide (q.kind=1\/q.kind=7\/q.kind=9) || decide (q.p=[]))&&(decide (q.kind=3) || decide (q.o=[]))):=by
 have key:((if(q.o.length:Int)=0 then Cq.ret true else Cq.ret (decide (q.kind=3))):Cq Bool).Α (decide (q.kind=3) || decide (q.o=[])):=by
  cases c:q.o with
  |nil=>exact Cq.wp.yes rfl (by show _=_;simp)
  |cons a l=>exact Cq.wp.no (by rw[Ě];omega) (by show _=_;simp)
 cases hp:q.p with
 |nil=>
  refine Cq.wp.yes (by rw[hp];rfl) ?_;rw[Ă (p:=([]:Ú)=[]) rfl,abA,Ť];exact key
 |cons a l=>
  refine Cq.wp.no (by rw[hp,Ě];omega) ⟨_,LI _,?_⟩;rw[ċ (p:=a::l=[]) ß,abP];cases decide (q.kind=1\/q.kind=7\/q.kind=9)with
  |false=>rfl
  |true=>rw[Ť];exact key
theorem Zu6{k:Zb}(m:1<=k.n/\k.n<=4){q:Zc}(h:fa q):(KZ k q).Α (fj k q):=by
 unfold fj;by_cases f:q.kind<1
 .refine Cq.wp.yes f ?_;show _=_;rw[ċ (p:=1<=q.kind/\_) ŉ];rfl
 by_cases a:10<q.kind
 .refine Cq.wp.no f (Cq.wp.yes a ?_);show _=_;rw[ċ (p:=1<=q.kind/\_) ŉ];rfl
 rw[Ă (p:=1<=q.kind/\q.kind<=10) ŉ,Ť];refine Cq.wp.no f (Cq.wp.no a ⟨true,Aq h.p,_,wW h.p,?_⟩);obtain⟨n,l⟩:∃n:Nat,k.n=(n:Int):=⟨k.n.toNat,ŉ⟩;rw[l]at m⊢;have nM:1<=n/\n<=4:=ŉ;by_cases i:12<gi q.p
 .refine Cq.wp.yes i ?_;show _=_;have:Ñ q.p (n:Int)=false:=by
   cases g:Ñ q.p (n:Int)with
   |false=>rfl
   |true=>have:=(Fo g).2;omega
  rw[this];rfl
 have r:=uf q.p;have c:∀t∈q.p,fH t.m<=12:=(tE ĳ).1 ŉ;have e:u64.wrap (n:Int)=(n:Int):=qJ ⟨ŉ,ŉ⟩;have d:i64.wrap (1*2 ^ (min (n:Int).toNat i64.bits))=((2 ^ n:Nat):Int):=by
  match n,nM with
  |1,_=>rfl
  |2,_=>rfl
  |3,_=>rfl
  |4,_=>rfl
 refine Cq.wp.no i ⟨_,AE h.p.len,by rw[e];omega,?_⟩;rw[e,d,wrap64 ŉ];by_cases j:(ð q.p).toNat<2 ^ n
 .refine Cq.wp.no ŉ ⟨true,EI (kM.of h.o.b.1),Cq.wp.no ĳ ?_⟩;rw[(pC ŉ).2 ⟨Fy.2 j,c⟩,Ť];exact Zto q
 refine Cq.wp.yes ŉ ?_;show _=_;have:Ñ q.p (n:Int)=false:=by
  cases g:Ñ q.p (n:Int)with
  |false=>rfl
  |true=>exact absurd (Fy.1 ((pC ŉ).1 g).1) j
 rw[this];rfl
structure eA (k:Zb):Prop where
 ok:æ k
 n3:k.n<=3
theorem eA.nn{k:Zb}(h:eA k):1<=k.n.toNat/\k.n.toNat<=3:=by have:=h.ok.n;have:=h.n3;omega
theorem eA.perm{k:Zb}(h:eA k):(â k).2∈Δ k.n.toNat:=by obtain⟨ρ,a,e⟩:=(Fg k).1;rw[e];exact a
theorem eA.mZ{k:Zb}(h:eA k):(â k).2∈Δ 3:=yj h.nn h.perm
theorem eA.canon{k:Zb}(h:eA k):eA (â k).1:=by refine⟨Zvd h.ok,?_⟩;obtain⟨ρ,a,e⟩:=(Fg k).1;rw[e];show(ÿ k ρ).n<=3;rw[y9 h.ok a];exact h.n3
theorem eA.UI{k:Zb}(h:eA k):(â k).1.n=k.n:=by obtain⟨ρ,a,e⟩:=(Fg k).1;rw[e];show(ÿ k ρ).n=k.n;rw[y9 h.ok a]
def eQ(q:Zc)(π:Fin 8->Int):Zc:=⟨q.kind,à π q.p,if q.kind=3 then dQ π (eJ q.o)else[]⟩
theorem iY{π:Fin 8->Int}(h:π∈Δ 3):Ì π:=(oi ⟨ĳ,ĳ⟩ h).perm
theorem SH{q:Zc}(h:fa q){π:Fin 8->Int}(a:π∈Δ 3):fa (eQ q π):=by
 refine⟨oF (iY a) h.p,?_⟩;unfold eQ;dsimp only;split
 .exact (h.o.full.2 π a).1
 exact(fa.nil 0).o
theorem Qf{q:Zc}(h:fa q){π:Fin 8->Int}(a:π∈Δ 3):(Ei q π).Α (eQ q π,0):=by
 refine⟨_,QF (iY a) h.p,Cq.wp.no (λe=>e rfl) ?_⟩;unfold eQ;by_cases h3:q.kind=3
 .refine Cq.wp.yes h3 ⟨_,(SX (iY a) h.o.b.1 h.o.b.2).1,Cq.wp.no (λe=>e rfl) ?_⟩;show _=_;rw[ą h3]
 refine Cq.wp.no h3 ?_;show _=_;rw[ā h3]
def iw(k:Zb)(q:Zc):ZE:=if fj k q=true then⟨(â k).1,eQ q (â k).2,0⟩else⟨iL,⟨0,[],[]⟩,1⟩
theorem Rg{k:Zb}{q:Zc}(c:eA k)(h:fa q):(AZ k q).Α (iw k q):=by
 have a:=c.mZ;refine⟨true,Kd c.ok,_,Zu6 c.ok.n h,?_⟩;unfold iw;cases hr:fj k q with
 |false=>exact Cq.wp.yes rfl (by show _=_;rw[ā ĳ];rfl)
 |true=>
  rw[ą rfl];refine Cq.wp.no ĳ ⟨_,ZuZ c.ok,_,Jo (iY a) h.p,?_⟩;unfold eQ;by_cases h3:q.kind=3
  .refine Cq.wp.yes h3 ⟨_,(SX (iY a) h.o.b.1 h.o.b.2).2,Cq.wp.no (λe=>e rfl) ?_⟩;show _=_;rw[ą h3]
  refine Cq.wp.no h3 (Cq.wp.no (λe=>e rfl) ?_);show _=_;rw[ā h3]
structure k8 (t:Zd):Prop where
 k:jS t.k
 q:rR t.q
def oQ(k:Zb)(q:Zc)(t:Zd):Bool:=decide (ý t.k=ý k)&&decide (hP t.q=hP q)
def MO(l:Ŀ Zd)(k:Zb)(q:Zc):Int:=match l.findIdx? (oQ k q)with
 |some i=>(i:Int)
 |none=>-1
theorem ZAr{b:Ze}(u:b.t.length<=1000)(h:∀t∈b.t,k8 t){k:Zb}{q:Zc}(p:jS k)(r:rR q):(Mp b k q).Α (MO b.t k q):=by
 have key:∀(m i:Nat),m+i=b.t.length->(FL b k q (i:Int)).wp λo=>o=(match(b.t.drop i).findIdx? (oQ k q)with|some j=>.inl ((i+j:Nat):Int)|none=>.inr ()):=by
  intro m;induction m with
  |zero=>
   intro i hi;refine Cq.Zt (Cq.wp.no ŉ ?_);rw[Ķ ŉ];rfl
  |succ m s=>
   intro i hi;have c:i<b.t.length:=ŉ;have n:=h _ (ă c);have l:b.t.drop i=b.t[i]::b.t.drop (i+1):=ĭ c;have a:oQ k q b.t[i]=false->(FL b k q ((i+1:Nat):Int)).wp λo=>o=(match(b.t.drop i).findIdx? (oQ k q)with|some j=>.inl ((i+j:Nat):Int)|none=>.inr ()):=λe=>by
    refine Cq.mono _ (λo g=>?_) (s (i+1) ŉ);rw[g,l,List.findIdx?_cons,e];cases(b.t.drop (i+1)).findIdx? (oQ k q)with
    |none=>rfl
    |some j=>show Sum.inl ((i+1+j:Nat):Int)=Sum.inl ((i+(j+1):Nat):Int);rw[show i+1+j=i+(j+1) by omega]
   refine Cq.Zt (Cq.wp.yes ŉ ⟨_,Ξ c,_,A0 n.k p,?_⟩);cases f:decide (ý b.t[i].k=ý k)with
   |false=>
    show(Cq.loop _ _).wp _;rw[ψ ŉ];exact a (by unfold oQ;rw[f];rfl)
   |true=>
    refine⟨_,Ξ c,_,K0 n.q r,?_⟩;cases d:decide (hP b.t[i].q=hP q)with
    |true=>
     refine Cq.wp.yes rfl ?_;show _=_;rw[l,List.findIdx?_cons,show oQ k q b.t[i]=true by unfold oQ;rw[f,d];rfl];rfl
    |false=>
     refine Cq.wp.no ĳ ?_;show(Cq.loop _ _).wp _;rw[ψ ŉ];exact a (by unfold oQ;rw[f,d];rfl)
 show(Cq.next _ _).wp _;refine Cq.mono (FL b k q 0) (λo g=>?_) (key b.t.length 0 ŉ);rw[g,aa9];unfold MO;cases b.t.findIdx? (oQ k q)with
 |none=>rfl
 |some j=>show _=_;rw[Ň]
end Go.EL

namespace Go.EL
open Go.IntKind (i8 i16 i32 i64 u8 u16 u32 u64)
open Go Go.RowKit
abbrev qV:Fin 8->Int:=λi=>(i.val:Int)
theorem Ztt{k:Zb}(h:æ k):â (â k).1=((â k).1,qV):=by
 have l:1<=k.n.toNat/\k.n.toNat<=4:=by have:=h.n;omega
 obtain⟨⟨ρ,d,m⟩,n⟩:=Fg k;have f:(â k).1=ÿ k ρ:=by rw[m]
 have g:(â k).1.n=k.n:=by rw[f,y9 h d]
 have i:qV∈Δ k.n.toNat:=by rw[vw];exact aao
 have c:ÿ (â k).1 qV=(â k).1:=by rw[f,R7 h i d,id_comp l d]
 have j:∀π∈Δ k.n.toNat,¬Op.bytesLess (ý (ÿ (â k).1 π)).toList (ý (â k).1).toList=true:=λπ a=>by rw[show ÿ (â k).1 π=ÿ k (gV π ρ) by rw[f,R7 h a d]];exact n _ ((mV l d).1 π a)
 have e:â (â k).1=fm (â k).1 (Δ (â k).1.n.toNat).tail (ÿ (â k).1 qV,qV):=rfl;rw[e,c,g];exact SE _ _ _ λπ a=>j π (List.mem_of_mem_tail a)
theorem Nx:qV∈Δ 3:=by rw[vw];exact aao
theorem Zys(o:Ord):dQ qV o=o:=by unfold dQ;have:∀m∈o,fx qV m=m:=λm _=>funext λj=>ue (iY Nx) m j j rfl;rw[ŭ this,List.map_id']
theorem ZpB{q:Zc}(h:fa q){π:Fin 8->Int}(a:π∈Δ 3):eQ (eQ q π) qV=eQ q π:=by
 have hp:=Zyt (n:=3) ⟨ĳ,ĳ⟩ (oF (iY a) h.p);show Zc.mk q.kind (à qV (à π q.p)) (if q.kind=3 then dQ qV (eJ (if q.kind=3 then dQ π (eJ q.o)else[]))else[])=Zc.mk q.kind (à π q.p) (if q.kind=3 then dQ π (eJ q.o)else[]);rw[hp];by_cases h3:q.kind=3
 .rw[ą h3,ą h3,Zys,(h.o.full.2 π a).2]
 rw[ā h3,ā h3]
theorem Li{kind:Int}{x:Zc}(h:x∈ù kind):x=⟨x.kind,[],[]⟩/\(x.kind=4\/x.kind=5\/x.kind=6):=by
 unfold ù at h;split at h
 .rw[Ĕ.1 h];exact⟨rfl,ĳ⟩
 split at h
 .rw[Ĕ.1 h];exact⟨rfl,ĳ⟩
 split at h
 .rw[Ĕ.1 h];exact⟨rfl,ĳ⟩
 cases h
theorem EN{kind:Int}{x:Zc}(h:x∈ù kind)(π:Fin 8->Int):eQ x π=x:=by obtain⟨e,a⟩:=Li h;rw[e];show Zc.mk x.kind (à π []) (if x.kind=3 then _ else[])=_;rw[ā ŉ,SY]
theorem EO{kind:Int}{x:Zc}(h:x∈ù kind){k:Zb}(c:æ k):fj k x=true:=by
 obtain⟨e,g⟩:=Li h;have f:Ñ [] k.n=true:=by obtain⟨n,d⟩:∃n:Nat,k.n=(n:Int):=⟨k.n.toNat,by have:=c.n;omega⟩;have:=c.n;rw[d];exact(pC ŉ).2 ⟨λt a=>(nomatch a),λt a=>(nomatch a)⟩
 rw[e];unfold fj;dsimp only;rw[f,Ă (p:=1<=x.kind/\x.kind<=10) ŉ];simp
theorem LU{kind:Int}{x:Zc}(h:x∈ù kind):fa x:=by rw[(Li h).1];exact fa.nil _
def wK(k:Zb):Prop:=eA k/\â k=(k,qV)
theorem eA.can{k:Zb}(h:eA k):wK (â k).1:=⟨h.canon,Ztt h.ok⟩
structure iP (k:Zb) (q:Zc):Prop where
 ck:wK k
 cq:fa q
 self:eQ q qV=q
 right:fj k q=true
theorem ZwM{k:Zb}(h:eA k){p:Ú}(hp:ω p)(c:Ñ p k.n=true):Ñ (à (â k).2 p) (â k).1.n=true:=by rw[h.UI];have d:=h.ok.n;obtain⟨n,a⟩:∃n:Nat,k.n=(n:Int):=⟨k.n.toNat,ŉ⟩;rw[a]at c⊢;have:=h.perm;rw[a,ē]at this;exact SR ŉ (oi ŉ this) hp c
theorem ZtG{k:Zb}(h:eA k){q:Zc}(e:fa q)(hr:fj k q=true):fj (â k).1 (eQ q (â k).2)=true:=by
 unfold fj at hr⊢;simp only[Ĉ]at hr⊢;obtain⟨⟨⟨c,h2⟩,h3⟩,d⟩:=hr;refine⟨⟨⟨c,ZwM h e.p h2⟩,?_⟩,?_⟩
 .rw[Ĵ]at h3⊢;rcases h3 with h3|h3
  .exact .inl h3
  refine .inr (Ă ?_);show à _ q.p=[];rw[ĥ h3,SY]
 rw[Ĵ]at d⊢;by_cases a:q.kind=3
 .exact .inl (Ă a)
 refine .inr (Ă ?_);show(if q.kind=3 then _ else[])=([]:Ord);rw[ā a]
theorem iP.of{k:Zb}(h:eA k){q:Zc}(a:fa q)(hr:fj k q=true):iP (â k).1 (eQ q (â k).2):=
 ⟨h.can,SH a h.mZ,ZpB a h.mZ,ZtG h a hr⟩
theorem iP.lV{k:Zb}(h:wK k){kind:Int}{x:Zc}(a:x∈ù kind):iP k x:=⟨h,LU a,EN a _,EO a h.1.ok⟩
theorem iP.iw{k:Zb}{q:Zc}(h:iP k q):iw k q=⟨k,q,0⟩:=by unfold EL.iw;rw[ą h.right,h.ck.2,h.self]
theorem Uh{k m:Zb}{p q:Zc}(a:æ k)(c:æ m):(ý k=ý m/\hP p=hP q)↔hM k p=hM m q:=⟨λh=>by unfold hM;rw[h.1,h.2],λh=>VF a c h⟩
end Go.EL

namespace Go.EL
open Go.IntKind (i8 i16 i32 i64 u8 u16 u32 u64)
open Go Go.RowKit
abbrev fb(t:Zd):Ĳ:=hM t.k t.q
structure ê (B:Ze):Prop where
 can:∀t∈B.t,iP t.k t.q
 ids:∀i (h:i<B.t.length),B.t[i].id=(i:Int)+1
 next:B.next=(B.t.length:Int)+1
 Ý:B.t.Pairwise λs t=>fb s≠fb t
 lV:∀i (h:i<B.t.length),∀x∈ù B.t[i].q.kind,∃j,∃(h2:j<B.t.length),j<i/\fb B.t[j]=hM B.t[i].k x
 num:∀t∈B.t,(0<=t.ξ/\t.ξ<=13)/\0<=t.low/\-1<=t.high
def eO(l:Ŀ Zd)(s:Ĳ):ŀ Zd:=l.find? λt=>decide (fb t=s)
theorem KL{l:Ŀ Zd}{s:Ĳ}{t:Zd}(h:eO l s=some t):t∈l/\fb t=s:=⟨ej h,by simpa using aaj h⟩
theorem RX{l:Ŀ Zd}{s:Ĳ}(h:eO l s=none):∀t∈l,fb t≠s:=λt a e=>by have:=List.find?_eq_none.1 h t a;exact this (Ă e)
theorem Zvl(l:Ŀ Zd)(t:Zd)(s:Ĳ):eO (l++[t]) s=match eO l s with|some u=>some u|none=>if fb t=s then some t else none:=by
 unfold eO;rw[abh];cases l.find? λt=>decide (fb t=s)with
 |some u=>rfl
 |none=>
  simp only[Option.none_or,abD,List.find?_nil];by_cases h:fb t=s
  .rw[Ă h,ą h]
  rw[ċ h,ā h]
def ly(B:Ze)(c:Zb)(q:Zc):Zd:=⟨B.next,c,q,0,0,-1,false⟩
def ie(B:Ze)(c:Zb)(q:Zc):Ze×Int:=match eO B.t (hM c q)with
 |some t=>(B,t.id)
 |none=>(⟨B.t++[ly B c q],B.next+1⟩,B.next)
def ib:Nat->Ze->Zb->Zc->Ze×Int
 |0,B,_,_=>(B,0)
 |n+1,B,c,q=>ie ((ù q.kind).foldl (λb x=>(ib n b c x).1) B) c q
def kD(kind:Int):Nat:=if kind=7 then 4 else if kind=6\/kind=10 then 3 else if kind=5\/kind=8 then 2 else 1
theorem vt(kind:Int):(ù kind=[]/\1<=kD kind)\/∃x,ù kind=[x]/\kD x.kind+1<=kD kind:=by
 unfold ù;split
 .refine .inr ⟨_,rfl,?_⟩;rename_i h;rcases h with rfl|rfl<;>decide
 split
 .refine .inr ⟨_,rfl,?_⟩;rename_i h;rcases h with rfl|rfl<;>decide
 split
 .refine .inr ⟨_,rfl,?_⟩;rename_i h;subst h;decide
 refine .inl ⟨rfl,?_⟩;unfold kD;repeat' split
 all_goals decide
structure Grown (B B':Ze) (m:Nat):Prop where
 ok:ê B'
 pre:B.t <+: B'.t
 len:B'.t.length<=B.t.length+m
theorem Grown.mem{B B':Ze}{m:Nat}(h:Grown B B' m){t:Zd}(a:t∈B.t):t∈B'.t:=h.pre.subset a
theorem Ua{B:Ze}(h:ê B){c:Zb}{q:Zc}(p:iP c q)(u:∀x∈ù q.kind,∃t∈B.t,fb t=hM c x):
  Grown B (ie B c q).1 1/\∃t∈(ie B c q).1.t,fb t=hM c q/\t.id=(ie B c q).2:=by
 unfold ie
 cases k:eO B.t (hM c q)with
 |some t=>
  obtain⟨m,h2⟩:=KL k
  exact⟨⟨h,List.prefix_rfl,Nat.le_succ _⟩,t,m,h2,rfl⟩
 |none=>
  have g:=RX k
  have f:(B.t++[ly B c q]).length=B.t.length+1:=by rw[Ā];rfl
  refine⟨⟨⟨λt a=>?_,λi hi=>?_,?_,?_,λi hi x d=>?_,λt a=>?_⟩,List.prefix_append _ _,by rw[f];exact ĉ _⟩,ly B c q,ß,rfl,rfl⟩
  .rcases Ĩ.1 a with a|a
   .exact h.can t a
   rw[Ĕ.1 a];exact p
  .have hi:i<(B.t++[ly B c q]).length:=hi
   rw[f]at hi
   show(B.t++[ly B c q])[i].id=_
   by_cases e:i<B.t.length
   .rw[eF e];exact h.ids i e
   have:i=B.t.length:=ŉ
   subst this
   rw[abc (ĉ _)]
   simp only[aaT,dA]
   exact h.next
  .show B.next+1=((B.t++[ly B c q]).length:Int)+1
   rw[f,h.next];rfl
  .rw[eu]
   refine⟨h.Ý,Ū _ _,λs v t a=>?_⟩
   rw[Ĕ.1 a]
   exact g s v
  .have kE:i<(B.t++[ly B c q]).length:=hi
   rw[f]at kE
   have d:x∈ù ((B.t++[ly B c q])[i]).q.kind:=d
   show ∃j,∃(h2:j<(B.t++[ly B c q]).length),j<i/\fb (B.t++[ly B c q])[j]=hM (B.t++[ly B c q])[i].k x
   by_cases e:i<B.t.length
   .rw[eF e]at d⊢
    obtain⟨j,h2,h3,n⟩:=h.lV i e x d
    exact⟨j,ŉ,h3,by rw[eF h2];exact n⟩
   have:i=B.t.length:=ŉ
   subst this
   rw[abc (ĉ _)]at d⊢
   simp only[aaT,dA]at d⊢
   obtain⟨t,a,r⟩:=u x d
   obtain⟨j,l,e⟩:=ķ.1 a
   exact⟨j,ŉ,l,by rw[eF l,e];exact r⟩
  rcases Ĩ.1 a with a|a
  .exact h.num t a
  rw[Ĕ.1 a];exact⟨⟨by show(0:Int)<=0;omega,by show(0:Int)<=13;omega⟩,by show(0:Int)<=0;omega,by show(-1:Int)<=-1;omega⟩
theorem Grown.trans{A B C:Ze}{m n:Nat}(h:Grown A B m)(k:Grown B C n):Grown A C (m+n):=⟨k.ok,h.pre.trans k.pre,by have:=h.len;have:=k.len;omega⟩
theorem Grown.up{A B:Ze}{m n:Nat}(h:Grown A B m)(k:m<=n):Grown A B n:=⟨h.ok,h.pre,by have:=h.len;omega⟩
theorem F0:∀{n:Nat}{B:Ze}{c:Zb}{q:Zc},kD q.kind<=n->ê B->iP c q->Grown B (ib n B c q).1 (kD q.kind)/\∃t∈(ib n B c q).1.t,fb t=hM c q/\t.id=(ib n B c q).2
 |0,_,_,q,r,_,_=>by
  rcases vt q.kind with ⟨_,h⟩|⟨x,_,h⟩<;>omega
 |n+1,B,c,q,r,k,g=>by
  have e:ib (n+1) B c q=ie ((ù q.kind).foldl (λb x=>(ib n b c x).1) B) c q:=rfl;rw[e];rcases vt q.kind with ⟨a,f⟩|⟨x,a,f⟩
  .rw[a];obtain⟨i,k2⟩:=Ua k g (λx d=>by rw[a]at d;cases d);exact⟨i.up f,k2⟩
  rw[a];have d:x∈ù q.kind:=by rw[a];exact Ĕ.2 rfl
  obtain⟨j,t,m,p,s⟩:=F0 (n:=n) (B:=B) (c:=c) (q:=x) ŉ k (iP.lV g.ck d);obtain⟨i,k2⟩:=Ua j.ok g (λy l=>by rw[a,Ĕ]at l;subst l;exact⟨t,m,p⟩);exact⟨(j.trans i).up f,k2⟩
end Go.EL

namespace Go.EL
open Go.IntKind (i8 i16 i32 i64 u8 u16 u32 u64)
open Go Go.RowKit
theorem A9{K V:Type}[DecidableEq K]:∀(D:Ŀ (K×V)) (k:K) (x:V),(eT D k x).length<=D.length+1
 |[],_,_=>ĉ _
 |p::D,k,x=>by have:=A9 D k x;unfold eT;split<;>simp only[Ě]<;>omega
structure kx (D:Ŀ (Ĳ×Int)) (l:Ŀ Zd):Prop where
 get:∀s,fg D s=(eO l s).map (·.id)
 len:D.length<=l.length
theorem kx.snoc{D:Ŀ (Ĳ×Int)}{l:Ŀ Zd}(h:kx D l){t:Zd}(a:eO l (fb t)=none):kx (eT D (fb t) t.id) (l++[t]) where
 get s:=by
  rw[y5,Zvl,h.get];by_cases e:fb t=s
  .subst e;rw[ą rfl,a];simp
  rw[ā e];cases eO l s with
  |none=>simp[e]
  |some u=>rfl
 len:=by have:=A9 D (fb t) t.id;have:=h.len;rw[Ā];show _<=l.length+1;omega
theorem ê.si{B:Ze}(h:ê B){t:Zd}(a:t∈B.t):æ t.k/\rR t.q:=⟨(h.can t a).ck.1.ok,(h.can t a).cq.w⟩
theorem Um{B:Ze}(h:ê B)(m:B.t.length<=98){D:Ŀ (Ĳ×Int)}(a:kx D B.t){c:Zb}{q:Zc}(d:iP c q):
  ∃g,kx g (ie B c q).1.t/\(ti c q D B).Α (((ie B c q).2,0),g,(ie B c q).1):=by
 have i:=ze d.ck.1.ok d.cq.w
 have j:=y8 d.ck.1.ok d.cq.w
 have e:=a.get (hM c q)
 unfold ie
 cases f:eO B.t (hM c q)with
 |some t=>
  rw[f]at e
  refine⟨D,a,_,i,j,?_⟩
  rw[show fg D (hM c q)=some t.id from e]
  rfl
 |none=>
  rw[f]at e
  have k:=h.next
  refine⟨eT D (hM c q) B.next,a.snoc (t:=ly B c q) f,_,i,j,?_⟩
  rw[show fg D (hM c q)=none from e]
  have l:=A9 D (hM c q) B.next
  have h2:=a.len
  refine⟨⟨⟨ŉ,ŉ⟩,by simp only[small];omega⟩,?_⟩
  show _=_
  rw[wrap64 ŉ]
  rfl
theorem VH:∀{n:Nat}{B:Ze}{c:Zb}{q:Zc}{D:Ŀ (Ĳ×Int)},kD q.kind<=n->ê B->iP c q->kx D B.t->B.t.length+kD q.kind<=99->
  ∃a,kx a (ib n B c q).1.t/\(vl n c q D B).Α (((ib n B c q).2,0),a,(ib n B c q).1)
 |0,_,_,q,_,r,_,_,_,_=>by
  rcases vt q.kind with ⟨_,h⟩|⟨x,_,h⟩<;>omega
 |n+1,B,c,q,D,r,i,j,m,A=>by
  have e:ib (n+1) B c q=ie ((ù q.kind).foldl (λb x=>(ib n b c x).1) B) c q:=rfl;have g:=(FB q).1;rw[e];rcases vt q.kind with ⟨f,p⟩|⟨x,f,p⟩
  .rw[f]at g⊢;obtain⟨a,k,k2⟩:=Um i ŉ m j;exact⟨a,k,_,g,k2⟩
  have s:x∈ù q.kind:=by rw[f];exact Ĕ.2 rfl
  have d:=iP.lV j.ck s;rw[f]at g⊢;obtain⟨v,t,u⟩:=VH (n:=n) (B:=B) (c:=c) (q:=x) (D:=D) ŉ i d m ŉ;obtain⟨l,_⟩:=F0 (n:=n) (B:=B) (c:=c) (q:=x) ŉ i d;have y:=l.len;obtain⟨a,k,k2⟩:=Um l.ok ŉ t j;exact⟨a,k,_,g,_,u,rfl,k2⟩
theorem ZzW{B:Ze}(h:ê B)(y:B.t.length<=1000):∃D,kx D B.t/\(ER B (0,[])).Α D:=by
 have key:∀k,k<=B.t.length->∃D,kx D (B.t.take k)/\∀E,(ER B ((k:Int),D)).Α E->(ER B (0,[])).Α E:=by
  intro k;induction k with
  |zero=>intro _;exact⟨[],⟨λs=>rfl,ĉ _⟩,λE d=>d⟩
  |succ k r=>
   intro x;obtain⟨D,c,h2⟩:=r ŉ;have a:k<B.t.length:=ŉ;have q:=ă a;obtain⟨l,m⟩:=h.si q;have f:eO (B.t.take k) (fb B.t[k])=none:=by
    cases n:eO (B.t.take k) (fb B.t[k])with
    |none=>rfl
    |some u=>
     obtain⟨t,v⟩:=KL n;obtain⟨j,p,e⟩:=ķ.1 t;rw[Č]at p;rw[aad]at e;exact absurd (by rw[e];exact v) (ħ.1 h.Ý j k ŉ a ŉ)
   have g:=c.snoc f;rw[<-č a]at g;have i:=g.len;rw[Č]at i;refine⟨_,g,λE d=>h2 E (Cq.Zt (Cq.wp.yes ŉ ⟨_,Ξ a,_,ze l m,⟨y8 l m,by show(eT D (fb B.t[k]) B.t[k].id).length<=small;simp only[small];omega⟩,?_⟩))⟩;show(Cq.loop _ _).wp _;rw[ψ ŉ];exact d
 obtain⟨D,c,h2⟩:=key B.t.length (ĉ _);rw[Ĥ]at c;exact⟨D,c,h2 D (Cq.Zt (Cq.wp.no ŉ rfl))⟩
theorem Mt(kind:Int):kD kind<=4:=by
 unfold kD;repeat' split
 all_goals decide
def gG(B:Ze)(k:Zb)(q:Zc):Ze×Int×Int:=if fj k q=true then((ib 5 B (â k).1 (eQ q (â k).2)).1,(ib 5 B (â k).1 (eQ q (â k).2)).2,0)else(⟨[],0⟩,0,1)
theorem Bc{B:Ze}(h:ê B)(l:B.t.length<=95){k:Zb}{q:Zc}(a:eA k)(c:fa q):(xE B k q).Α (gG B k q):=by
 refine⟨true,Ff a.ok,_,Ss a.ok.n c,?_⟩;unfold gG;cases hr:fj k q with
 |false=>exact Cq.wp.yes rfl (by show _=_;rw[ā ĳ])
 |true=>
  rw[ą rfl];refine Cq.wp.no ĳ ?_;have f:=iP.of a c hr;have g:kD (eQ q (â k).2).kind<=4:=Mt _;obtain⟨D,d,i⟩:=ZzW h ŉ;obtain⟨j,_,h2⟩:=VH (n:=5) (B:=B) (D:=D) ŉ h f d ŉ;refine⟨_,S1 a.ok,_,Qf c a.mZ,Cq.wp.no (λe=>e rfl) (Cq.eY i ⟨B.t,⟨λe=>by rw[e];rfl,by rw[ļ];simp only[small];omega,rfl⟩,_,h2,Cq.wp.no (λe=>e rfl) rfl⟩)⟩
theorem ZzN{c:Zb}{q:Zc}(d:æ c){t:Zd}(f:æ t.k):oQ c q t=decide (fb t=hM c q):=by
 unfold oQ;by_cases e:fb t=hM c q
 .obtain⟨a,h2⟩:=(Uh f d).2 e;rw[Ă a,Ă h2,Ă e];rfl
 rw[ċ e];by_cases a:ý t.k=ý c
 .rw[Ă a,ċ (λh2=>e ((Uh f d).1 ⟨a,h2⟩))];rfl
 rw[ċ a];rfl
theorem UF{c:Zb}{q:Zc}(a:æ c):∀{l:Ŀ Zd},(∀t∈l,æ t.k)->eO l (hM c q)=(l.findIdx? (oQ c q)).bind λi=>l[i]?
 |[],_=>rfl
 |t::l,h=>by
  have d:=UF (q:=q) a (l:=l) λu e=>h u (by simp[e]);rw[List.findIdx?_cons,ZzN a (h t ß)];unfold eO at d⊢;rw[abD];cases decide (fb t=hM c q)with
  |true=>rfl
  |false=>
   rw[d];cases l.findIdx? (oQ c q)with
   |none=>rfl
   |some i=>simp
theorem ê.og{B:Ze}(h:ê B):∀t∈B.t,k8 t:=λt a=>⟨(h.can t a).ck.1.ok.tx,(h.can t a).cq.w⟩
theorem VG{B:Ze}(h:ê B)(k:B.t.length<=98){c:Zb}{q:Zc}(f:iP c q)(e:Int):(QE ⟨c,q,e⟩ B).Α ⟨(ie B c q).1,(ie B c q).2,0⟩:=by
 refine⟨_,ZAr ŉ h.og f.ck.1.ok.tx f.cq.w,?_⟩;have a:=UF (q:=q) f.ck.1.ok (l:=B.t) λt j=>(h.si j).1;unfold MO ie;cases hi:B.t.findIdx? (oQ c q)with
 |none=>
  rw[hi]at a;have a:eO B.t (hM c q)=none:=a;rw[a];have g:=h.next;refine Cq.wp.no ĳ (Cq.wp.no ŉ (Cq.wp.no ŉ ⟨by rw[ļ];simp only[small];omega,by simp only[ļ,Ā,Ě,Ļ];simp only[small];omega,?_⟩));show _=_;rw[wrap64 ŉ,ļ];rfl
 |some i=>
  rw[hi]at a;obtain⟨d,_⟩:=List.findIdx?_eq_some_iff_getElem.1 hi;have a:eO B.t (hM c q)=some B.t[i]:=by rw[a];exact Ą d
  rw[a];exact Cq.wp.yes (show(0:Int)<=(i:Int) by omega) ⟨_,Ξ d,rfl⟩
theorem Sz:∀{n:Nat}{B:Ze}{k c:Zb}{p q:Zc},kD q.kind<=n->ê B->iP c q->(AZ k p).Α ⟨c,q,0⟩->B.t.length+kD q.kind<=99->
  (AY n B k p).Α ⟨(ib n B c q).1,(ib n B c q).2,0⟩
 |0,_,_,_,_,q,r,_,_,_,_=>by
  rcases vt q.kind with ⟨_,h⟩|⟨x,_,h⟩<;>omega
 |n+1,B,k,c,p,q,r,g,i,hr,v=>by
  have e:ib (n+1) B c q=ie ((ù q.kind).foldl (λb x=>(ib n b c x).1) B) c q:=rfl;have m:=(FB q).2;rw[e];refine⟨_,hr,Cq.wp.no (λe=>e rfl) ⟨_,m,?_⟩⟩;show(Cq.next _ _).wp _;rcases vt q.kind with ⟨f,l⟩|⟨x,f,l⟩
  .rw[f];exact Cq.Zt (Cq.wp.no ĳ (VG g ŉ i 0))
  have s:x∈ù q.kind:=by rw[f];exact Ĕ.2 rfl
  have a:=iP.lV i.ck s;rw[f];have d:=Rg a.ck.1 a.cq;rw[a.iw]at d;have t:=Sz (n:=n) (B:=B) (k:=c) (c:=c) (p:=x) (q:=x) ŉ g a d ŉ;obtain⟨j,_⟩:=F0 (n:=n) (B:=B) (c:=c) (q:=x) ŉ g a;have u:=j.len;exact Cq.Zt (Cq.wp.yes (show(0:Int)<((1:Nat):Int) by decide) ⟨x,⟨ĳ,rfl⟩,_,t,Cq.wp.no (λe=>e rfl) (Cq.Zt (Cq.wp.no (show ¬i64.wrap (0+1)<((1:Nat):Int) by decide) (VG j.ok ŉ i 0)))⟩)
theorem ZxS{B:Ze}(h:ê B)(i:B.t.length<=95){k:Zb}{q:Zc}(d:eA k)(e:fa q):(AY 5 B k q).Α ⟨(gG B k q).1,(gG B k q).2.1,(gG B k q).2.2⟩:=by
 have a:=Rg d e;unfold gG;cases hr:fj k q with
 |false=>
  have c:iw k q=⟨iL,⟨0,[],[]⟩,1⟩:=by unfold iw;rw[hr];rfl
  rw[c]at a;exact⟨_,a,Cq.wp.yes ĳ rfl⟩
 |true=>
  have c:iw k q=⟨(â k).1,eQ q (â k).2,0⟩:=by unfold iw;rw[if_pos hr]
  rw[c]at a;have f:=iP.of d e hr;have g:kD (eQ q (â k).2).kind<=4:=Mt _;rw[ą rfl];exact Sz (n:=5) ŉ h f a ŉ
end Go.EL

namespace Go.EL
open Go.IntKind (i8 i16 i32 i64 u8 u16 u32 u64)
open Go Go.RowKit
structure pz (t:Zd):Prop where
 xk:eA t.k\/t.k=iL
 xq:fa t.q
theorem Zzd:¬eA iL:=λh=>absurd h.ok.n.1 ĳ
def pw(t:Zd):Prop:=((0<=t.ξ/\t.ξ<=13)/\0<=t.low/\-1<=t.high)/\eA t.k/\fj t.k t.q=true/\ý (â t.k).1=ý t.k/\hP (eQ t.q (â t.k).2)=hP t.q
theorem ZsE:(vk iL).Α false:=⟨false,Cq.wp.no ĳ rfl,rfl⟩
theorem Zxk{t:Zd}(h:pz t):(KE t).wp λb=>(b=true↔pw t):=by
 by_cases c:t.ξ<0
 .refine Cq.wp.yes c ⟨λe=>(nomatch e),λp=>?_⟩;have:=p.1.1.1;omega
 by_cases d:13<t.ξ
 .refine Cq.wp.no c (Cq.wp.yes d ⟨λe=>(nomatch e),λp=>?_⟩);have:=p.1.1.2;omega
 by_cases g:t.low<0
 .refine Cq.wp.no c (Cq.wp.no d (Cq.wp.yes g ⟨λe=>(nomatch e),λp=>?_⟩));have:=p.1.2.1;omega
 by_cases i:t.high < -1
 .refine Cq.wp.no c (Cq.wp.no d (Cq.wp.no g (Cq.wp.yes i ⟨λe=>(nomatch e),λp=>?_⟩)));have:=p.1.2.2;omega
 refine Cq.wp.no c (Cq.wp.no d (Cq.wp.no g (Cq.wp.no i ?_)));have j:(0<=t.ξ/\t.ξ<=13)/\0<=t.low/\-1<=t.high:=ŉ;rcases h.xk with a|a
 .refine⟨true,Ff a.ok,_,Ss a.ok.n h.xq,?_⟩;cases hr:fj t.k t.q with
  |false=>exact Cq.wp.yes rfl ⟨λe=>(nomatch e),λp=>by have:=p.2.2.1;rw[hr]at this;cases this⟩
  |true=>
   refine Cq.wp.no ĳ ⟨_,S1 a.ok,_,zg a.canon.ok,_,zg a.ok,?_⟩;by_cases f:ý (â t.k).1=ý t.k
   .refine Cq.wp.no (λe=>e f) ⟨_,Qf h.xq a.mZ,Cq.wp.yes rfl ⟨_,Me (SH h.xq a.mZ).w,_,Me h.xq.w,?_⟩⟩;exact⟨λe=>⟨j,a,hr,f,ĥ e⟩,λp=>Ă p.2.2.2.2⟩
   exact Cq.wp.yes f ⟨λe=>(nomatch e),λp=>absurd p.2.2.2.1 f⟩
 rw[show JP t=Cq.bind (vk t.k) _ from rfl,a];exact⟨false,ZsE,⟨λe=>(nomatch e),λp=>absurd (a ▸ p.2.1) Zzd⟩⟩
structure Ak (B:Ze) (i:Nat) (t:Zd):Prop where
 WS:1<=t.id
 idn:t.id<B.next
 inc:∀j (h:j<B.t.length),j+1=i->B.t[j].id<t.id
 prop:pw t
 Ý:∀j (h:j<B.t.length),j<i->fb B.t[j]≠fb t
 lV:∀x∈ù t.q.kind,∃j,∃(h:j<B.t.length),j<i/\fb B.t[j]=hM t.k x
def vb(B:Ze):Prop:=∀i (h:i<B.t.length),Ak B i B.t[i]
def rV(B:Ze):Prop:=(B.t.length<=100/\1<=B.next/\B.next<=1000000)/\vb B
def Am(A:Prop):Bool⊕Unit->Prop
 |.inl b=>b=false/\¬A
 |.inr ()=>A
structure nR (D:Ŀ (Ĳ×Bool)) (B:Ze) (i:Nat):Prop where
 get:∀s,(fg D s).getD false=true↔∃j,∃(h:j<B.t.length),j<i/\fb B.t[j]=s
 len:D.length<=i
theorem nR.step{D:Ŀ (Ĳ×Bool)}{B:Ze}{i:Nat}(h:nR D B i)(hi:i<B.t.length):nR (eT D (fb B.t[i]) true) B (i+1) where
 get s:=by
  rw[y5];by_cases e:fb B.t[i]=s
  .rw[ą e];exact⟨λ_=>⟨i,hi,ů _,e⟩,λ_=>rfl⟩
  rw[ā e,h.get];constructor
  .rintro⟨j,a,h2,h3⟩;exact⟨j,a,ŉ,h3⟩
  rintro⟨j,a,h2,h3⟩;by_cases c:j=i
  .subst c;exact absurd h3 e
  exact⟨j,a,ŉ,h3⟩
 len:=by have:=A9 D (fb B.t[i]) true;have:=h.len;omega
theorem ZzZ{B:Ze}{i:Nat}{D:Ŀ (Ĳ×Bool)}(e:nR D B i){t:Zd}(f:eA t.k):
  (J7 D t (ù t.q.kind) 0).wp (Am (∀x∈ù t.q.kind,∃j,∃(h:j<B.t.length),j<i/\fb B.t[j]=hM t.k x)):=by
 rcases vt t.q.kind with ⟨a,_⟩|⟨x,a,_⟩
 .rw[a]
  exact Cq.Zt (Cq.wp.no ĳ (λx d=>(nomatch d)))
 have d:x∈ù t.q.kind:=by rw[a];exact Ĕ.2 rfl
 have g:=(LU d).w
 rw[a]
 refine Cq.Zt (Cq.wp.yes (show(0:Int)<((1:Nat):Int) by decide) ⟨x,⟨ĳ,rfl⟩,_,ze f.ok g,y8 f.ok g,?_⟩)
 by_cases c:(fg D (hM t.k x)).getD false=true
 .refine Cq.wp.no (by rw[c];decide) (Cq.Zt (Cq.wp.no (show ¬i64.wrap (0+1)<((1:Nat):Int) by decide) (λy l=>?_)))
  rw[Ĕ.1 l]
  exact(e.get _).1 c
 refine Cq.wp.yes (by rw[Ź.2 c];rfl) ⟨rfl,λk=>c ((e.get _).2 (k x (Ĕ.2 rfl)))⟩
theorem Rk{B:Ze}(J:∀t∈B.t,pz t)(O:B.t.length<=100):∀(m i:Nat),m+i=B.t.length->∀(last:Int) (D:Ŀ (Ĳ×Bool)),nR D B i->(i=0->last=0)->(∀j (h:j<B.t.length),j+1=i->B.t[j].id=last)->(∀j (h:j<B.t.length),j<i->Ak B j B.t[j])->
  (J6 B (last,(i:Int),D)).wp (Am (vb B))
 |0,i,P,last,D,p,v,hp,d=>Cq.Zt (Cq.wp.no ŉ (λj n=>d j n ŉ))
 |m+1,i,P,last,D,p,v,hp,d=>by
  have hi:i<B.t.length:=ŉ;have F:=J _ (ă hi);have C:0<=last:=by
   by_cases e:i=0
   .rw[v e];exact Ō _
   have:=(d (i-1) ŉ ŉ).WS;rw[hp (i-1) ŉ ŉ]at this;omega
  have g:(∀j (h:j<B.t.length),j+1=i->B.t[j].id<B.t[i].id)↔i=0\/last<B.t[i].id:=by
   constructor
   .intro h;by_cases e:i=0
    .exact .inl e
    refine .inr ?_;have:=h (i-1) ŉ ŉ;rwa [hp (i-1) ŉ ŉ]at this
   intro h j n e;rw[hp j n e];rcases h with h|h
   .omega
   exact h
  refine Cq.Zt (Cq.wp.yes ŉ ⟨_,Ξ hi,?_⟩);by_cases s:B.t[i].id<=last
  .refine Cq.wp.yes s ⟨rfl,λc=>?_⟩;have:=(c i hi).WS;rcases g.1 (c i hi).inc with e|e
   .rw[v e]at s;omega
   omega
  refine Cq.wp.no s ?_;by_cases G:B.next<=B.t[i].id
  .refine Cq.wp.yes G ⟨rfl,λc=>?_⟩;have:=(c i hi).idn;omega
  refine Cq.wp.no G ?_;rcases UN (Zxk F)with ⟨f,l⟩|⟨f,l⟩
  .refine⟨_,l,?_⟩;have A:=f.2.1;have k:=ze A.ok F.xq.w;have q:=y8 A.ok F.xq.w;refine⟨_,k,q,?_⟩;by_cases r:(fg D (fb B.t[i])).getD false=true
   .refine Cq.wp.yes r ⟨rfl,λc=>?_⟩;obtain⟨j,L,h2,h3⟩:=(p.get _).1 r;exact(c i hi).Ý j L h2 h3
   refine Cq.wp.no r ⟨_,(FB _).1,?_⟩;refine Cq.mono (J7 D B.t[i] (ù B.t[i].q.kind) 0) (λo H=>?_) (ZzZ p A);cases o with
   |inl b=>
    obtain⟨rfl,E⟩:=H;exact⟨rfl,λc=>E (c i hi).lV⟩
   |inr u=>
    cases u;have E:∀x∈ù B.t[i].q.kind,∃j,∃(h:j<B.t.length),j<i/\fb B.t[j]=hM B.t[i].k x:=H;have I:=p.step hi;have Q:=I.len;refine⟨_,k,⟨q,by show(eT D (fb B.t[i]) true).length<=small;simp only[small];omega⟩,?_⟩;show(Cq.loop _ _).wp _;rw[ψ ŉ];refine Rk J O m (i+1) ŉ _ _ I (λe=>ŉ) (λj n e=>by obtain rfl:j=i:=ŉ;rfl) (λj n e=>?_);by_cases K:j=i
    .subst K;exact⟨ŉ,ŉ,g.2 (.inr ŉ),f,λa N y e=>r ((p.get _).2 ⟨a,N,y,e⟩),E⟩
    exact d j n ŉ
  exact⟨_,l,rfl,λc=>f (c i hi).prop⟩
theorem Zwc{B:Ze}(i:∀t∈B.t,pz t):(E0 B).wp λb=>(b=true↔rV B):=by
 by_cases a:B.next<1
 .refine Cq.wp.yes a ⟨λe=>(nomatch e),λp=>?_⟩;have:=p.1.2.1;omega
 by_cases c:1000000<B.next
 .refine Cq.wp.no a (Cq.wp.yes c ⟨λe=>(nomatch e),λp=>?_⟩);have:=p.1.2.2;omega
 by_cases d:100<(B.t.length:Int)
 .refine Cq.wp.no a (Cq.wp.no c (Cq.wp.yes d ⟨λe=>(nomatch e),λp=>?_⟩));have:=p.1.1;omega
 refine Cq.wp.no a (Cq.wp.no c (Cq.wp.no d ?_));show(Cq.next _ _).wp _;refine Cq.mono (J6 B (0,0,[])) (λo f=>?_) (Rk i ŉ B.t.length 0 rfl 0 [] ⟨λs=>⟨λe=>(nomatch e),λ⟨j,_,h,_⟩=>absurd h (ı _)⟩,ĉ _⟩ (λ_=>rfl) (λj _ e=>ŉ) (λj _ e=>ŉ));cases o with
 |inl b=>
  obtain⟨rfl,g⟩:=f;exact⟨λe=>(nomatch e),λp=>absurd p.2 g⟩
 |inr u=>
  cases u;exact⟨λ_=>⟨ŉ,f⟩,λ_=>rfl⟩
theorem ê.DH{B:Ze}(h:ê B):∀t∈B.t,pz t:=λt a=>⟨.inl (h.can t a).ck.1,(h.can t a).cq⟩
theorem ê.valid{B:Ze}(h:ê B)(l:B.t.length<=100):rV B:=by have m:=h.next;refine⟨ŉ,λi hi=>?_⟩;have f:=ă hi;have a:=h.can _ f;have g:=h.ids i hi;refine⟨ŉ,ŉ,λj c e=>by have:=h.ids j c;omega,⟨h.num _ f,a.ck.1,a.right,by rw[a.ck.2],by rw[a.ck.2,a.self]⟩,λj c d=>ħ.1 h.Ý j i c hi d,λx k=>h.lV i hi x k⟩
end Go.EL

namespace Go.EL
open Go.IntKind (i8 i16 i32 i64 u8 u16 u32 u64)
open Go Go.RowKit
def qD:Zd:=⟨0,⟨0,[],[]⟩,⟨0,[],[]⟩,0,0,0,false⟩
def Ò(l:Ŀ Zd)(id:Int):Zd×Bool:=match l.find? λt=>decide (t.id=id)with
 |some t=>(t,true)
 |none=>(qD,false)
theorem y3{B:Ze}(j:B.t.length<=1000)(id:Int):(xA B id).Α (Ò B.t id)/\(LG B id).Α (Ò B.t id):=by
 have key:∀(m i:Nat),m+i=B.t.length->∀z,((Kn B id ((i:Int),z)).wp λo=>o=(match(B.t.drop i).find? (λt=>decide (t.id=id))with|some t=>.inl (t,true)|none=>.inr z))/\((Kb B id ((i:Int),z)).wp λo=>o=(match(B.t.drop i).find? (λt=>decide (t.id=id))with|some t=>.inl (t,true)|none=>.inr z)):=by
  intro m;induction m with
  |zero=>
   intro i hi z;rw[Ķ ŉ];exact⟨Cq.Zt (Cq.wp.no ŉ rfl),Cq.Zt (Cq.wp.no ŉ rfl)⟩
  |succ m h=>
   intro i hi z;have a:i<B.t.length:=ŉ;obtain⟨d,f⟩:=h (i+1) ŉ z;rw[ĭ a,abD];by_cases e:B.t[i].id=id
   .rw[Ă e];exact⟨Cq.Zt (Cq.wp.yes ŉ ⟨_,Ξ a,Cq.wp.yes e rfl⟩),Cq.Zt (Cq.wp.yes ŉ ⟨_,Ξ a,Cq.wp.yes e ⟨_,Ξ a,rfl⟩⟩)⟩
   rw[ċ e];refine⟨Cq.Zt (Cq.wp.yes ŉ ⟨_,Ξ a,Cq.wp.no e ?_⟩),Cq.Zt (Cq.wp.yes ŉ ⟨_,Ξ a,Cq.wp.no e ?_⟩)⟩
   .show (Cq.loop _ _).wp _;rw[ψ ŉ];exact d
   show(Cq.loop _ _).wp _;rw[ψ ŉ];exact f
 obtain⟨g,k2⟩:=key B.t.length 0 ŉ qD;rw[aa9]at g k2;unfold Ò;constructor
 .show (Cq.next _ _).wp _;refine Cq.mono (Kn B id (0,qD)) (λo c=>?_) g;rw[c];cases B.t.find? λt=>decide (t.id=id)<;>rfl
 show(Cq.next _ _).wp _;refine Cq.mono (Kb B id (0,qD)) (λo c=>?_) k2;rw[c];cases B.t.find? λt=>decide (t.id=id)<;>rfl
structure mN (s t:Zd):Prop where
 id:s.id=t.id
 ξ:s.ξ=t.ξ
 low:s.low=t.low
 high:s.high=t.high
 done:s.done=t.done
 k:ý s.k=ý t.k
 q:hP s.q=hP t.q
theorem mN.refl(t:Zd):mN t t:=⟨rfl,rfl,rfl,rfl,rfl,rfl,rfl⟩
theorem Ta{s t:Zd}(a:k8 s)(c:k8 t)(h:mN s t):(yN s t).Α true:=by refine Cq.wp.yes h.id (Cq.wp.yes h.ξ (Cq.wp.yes h.low (Cq.wp.yes h.high (Cq.wp.yes h.done ⟨_,A0 a.k c.k,?_⟩))));rw[Ă h.k];exact⟨_,K0 a.q c.q,Ă h.q⟩
theorem ZpA{B C:Ze}(f:∀t∈B.t,k8 t)(g:∀t∈C.t,k8 t)(l:B.next=C.next)(n:B.t.length=C.t.length)(j:B.t.length<=1000)(h:∀i (m:i<B.t.length) (h2:i<C.t.length),mN B.t[i] C.t[i]):(Bm B C).Α true:=by
 refine Cq.wp.no (λe=>e l) (Cq.wp.no (λe=>e ŉ) ?_);show(Cq.next _ _).wp _;refine Cq.Zn B.t.length (λk s=>s=(k:Int)) (λk s d c=>?_) (λs c=>?_) rfl
 .subst c;have a:k<C.t.length:=ŉ;refine Cq.wp.yes ŉ ⟨_,Ξ d,_,Ξ a,_,Ta (f _ (ă _)) (g _ (ă _)) (h k d a),Cq.wp.no ĳ ?_⟩;show _=_;rw[ψ ŉ]
 subst c;exact Cq.wp.no ŉ rfl
theorem Qs{B:Ze}(c:∀t∈B.t,k8 t)(a:B.t.length<=1000):(Bm B B).Α true:=ZpA c c rfl rfl a λi _ _=>mN.refl _
def iI(B:Ze)(t:Zd):Bool:=!t.done&&decide (t.ξ<=12)&&(ù t.q.kind).all λx=>match eO B.t (hM t.k x)with
 |some u=>u.done
 |none=>false
def jd(B:Ze)(n:Nat):Ŀ Zd:=B.t.filter λt=>decide (t.ξ=(n:Int))&&iI B t
def iz(B:Ze):Ŀ Zd:=(List.range 13).flatMap (jd B)
def yl(B:Ze):Ŀ Int:=(iz B).map (·.id)
theorem Ztw{α:Type}(p:α->Bool){l:Ŀ α}{i:Nat}(hi:i<l.length):(l.take (i+1)).filter p=(l.take i).filter p++if p l[i]=true then[l[i]]else[]:=by rw[č hi,aa7];congr 1;rw[ŏ];split<;>rfl
theorem ZvI(B:Ze)(n:Nat):(jd B n).length<=B.t.length:=ec _ _
theorem Qg(B:Ze):∀n:Nat,((List.range n).flatMap (jd B)).length<=n*B.t.length
 |0=>Ĝ _
 |n+1=>by rw[aak,du,Ā,List.flatMap_singleton,ŋ];have:=Qg B n;have:=ZvI B n;omega
def yf(s t:Zd):Prop:=s.ξ<t.ξ\/(s.ξ=t.ξ/\s.id<t.id)
theorem UJ{s t:Zd}:ls s t<0↔yf s t:=by
 unfold ls yf;by_cases a:s.ξ<t.ξ
 .rw[ą a];omega
 rw[ā a];by_cases b:t.ξ<s.ξ
 .rw[ą b];omega
 rw[ā b];by_cases c:s.id<t.id
 .rw[ą c];omega
 rw[ā c];split<;>omega
theorem ê.inc{B:Ze}(h:ê B):B.t.Pairwise λs t=>s.id<t.id:=by rw[ħ];intro i j hi c a;have:=h.ids i hi;have:=h.ids j c;omega
theorem Uc{B:Ze}(h:ê B):∀n:Nat,((List.range n).flatMap (jd B)).Pairwise yf/\∀t∈(List.range n).flatMap (jd B),t.ξ<(n:Int)
 |0=>⟨List.Pairwise.nil,λt a=>by cases a⟩
 |n+1=>by
  obtain⟨f,h2⟩:=Uc h n;have c:∀t∈jd B n,t.ξ=(n:Int):=λt a=>by have:=(ō.1 a).2;rw[Ĉ]at this;exact ĥ this.1
  rw[aak,du,List.flatMap_singleton,eu];refine⟨⟨f,?_,λs d t a=>.inl (by have:=h2 s d;have:=c t a;omega)⟩,λt a=>?_⟩
  .have hp:(jd B n).Pairwise λs t=>s.id<t.id:=h.inc.sublist List.filter_sublist;refine hp.imp_of_mem λ{s t} d a e=>.inr ⟨by have:=c s d;have:=c t a;omega,e⟩
  rcases Ĩ.1 a with a|a
  .have:=h2 t a;omega
  have:=c t a;omega
theorem Zvu{t:Zd}(h:yf t t):False:=by unfold yf at h;omega
theorem ZtD{B:Ze}{t:Zd}(h:iI B t=true):t.done=false/\t.ξ<=12:=by unfold iI at h;rw[Ĉ,Ĉ]at h;exact⟨by simpa using h.1.1,ĥ h.1.2⟩
theorem Sr{B:Ze}(h:ê B){t:Zd}:t∈iz B↔t∈B.t/\iI B t=true:=by
 unfold iz jd;simp only[List.mem_flatMap,ĺ,ō,Ĉ,Ę];constructor
 .rintro⟨n,_,a,_,h2⟩;exact⟨a,h2⟩
 rintro⟨a,h2⟩;have c:=(h.num t a).1;have:=(ZtD h2).2;exact⟨t.ξ.toNat,ŉ,a,ŉ,h2⟩
theorem ZvJ{B:Ze}(h:ê B){ys:Ŀ Zd}(hp:ys.Perm (B.t.filter (iI B)))(u:ys.Pairwise λx y=>¬ls y x<0):ys=iz B:=by
 have hr:=(Uc h 13).1;have f:(iz B).Nodup:=hr.imp λ{s t} e c=>by subst c;exact Zvu e
 have d:(B.t.filter (iI B)).Nodup:=(h.inc.sublist List.filter_sublist).imp λ{s t} e c=>by subst c;exact Int.lt_irrefl _ e
 refine abl (le:=λx y=>¬ls y x<0) (λa b n p l h2=>?_) u (hr.imp λ{s t} e c=>?_) (hp.trans ((aa5 d f).2 λt=>?_))
 .rw[UJ]at l h2;have v:=(ō.1 (hp.mem_iff.1 n)).1;have mb:=((Sr h).1 p).1;obtain⟨i,hi,g⟩:=ķ.1 v;obtain⟨j,r,k⟩:=ķ.1 mb;have h3:=h.ids i hi;have m:=h.ids j r;have q:a.id=b.id:=by unfold yf at l h2;omega
  rw[g]at h3;rw[k]at m;have:i=j:=ŉ;subst this;rw[<-g,<-k]
 .rw[UJ]at c;unfold yf at e c;omega
 rw[Sr h,ō]
end Go.EL

namespace Go.EL
open Go.IntKind (i8 i16 i32 i64 u8 u16 u32 u64)
open Go Go.RowKit
structure pn (D:Ŀ (Ĳ×Bool)) (B:Ze) (i:Nat):Prop where
 get:∀s,(fg D s).getD false=true↔∃j,∃(h:j<B.t.length),j<i/\fb B.t[j]=s/\B.t[j].done=true
 len:D.length<=i
theorem Zx8{B:Ze}(h:ê B)(u:B.t.length<=1000):∃D,pn D B B.t.length/\(Ec B (0,[])).Α D:=by
 have key:∀k,k<=B.t.length->∃D,pn D B k/\∀E,(Ec B ((k:Int),D)).Α E->(Ec B (0,[])).Α E:=by
  intro k;induction k with
  |zero=>intro _;exact⟨[],⟨λs=>⟨λe=>(nomatch e),λ⟨j,_,h,_⟩=>absurd h (ı _)⟩,ĉ _⟩,λE i=>i⟩
  |succ k r=>
   intro t;obtain⟨D,g,h2⟩:=r ŉ;have f:k<B.t.length:=ŉ;obtain⟨n,p⟩:=h.si (ă f);have q:=g.len;cases l:B.t[k].done with
   |true=>
    have v:=A9 D (fb B.t[k]) true;refine⟨eT D (fb B.t[k]) true,⟨λs=>?_,ŉ⟩,λE i=>h2 E (Cq.Zt (Cq.wp.yes ŉ ⟨_,Ξ f,Cq.wp.yes l ⟨_,ze n p,⟨y8 n p,by show(eT D (fb B.t[k]) true).length<=small;simp only[small];omega⟩,?_⟩⟩))⟩
    .rw[y5];by_cases e:fb B.t[k]=s
     .rw[ą e];exact⟨λ_=>⟨k,f,ů _,e,l⟩,λ_=>rfl⟩
     rw[ā e,g.get];constructor
     .rintro⟨j,a,b,c⟩;exact⟨j,a,ŉ,c⟩
     rintro⟨j,a,b,c,d⟩;by_cases m:j=k
     .subst m;exact absurd c e
     exact⟨j,a,ŉ,c,d⟩
    show(Cq.loop _ _).wp _;rw[ψ ŉ];exact i
   |false=>
    refine⟨D,⟨λs=>?_,ŉ⟩,λE i=>h2 E (Cq.Zt (Cq.wp.yes ŉ ⟨_,Ξ f,Cq.wp.no (by rw[l];decide) ?_⟩))⟩
    .rw[g.get];constructor
     .rintro⟨j,a,b,c⟩;exact⟨j,a,ŉ,c⟩
     rintro⟨j,a,b,c,d⟩;by_cases m:j=k
     .subst m;rw[l]at d;cases d
     exact⟨j,a,ŉ,c,d⟩
    show(Cq.loop _ _).wp _;rw[ψ ŉ];exact i
 obtain⟨D,g,h2⟩:=key B.t.length (ĉ _);exact⟨D,g,h2 D (Cq.Zt (Cq.wp.no ŉ rfl))⟩
theorem Zwk{B:Ze}(h:ê B){D:Ŀ (Ĳ×Bool)}(l:pn D B B.t.length)(s:Ĳ):(fg D s).getD false=(match eO B.t s with|some u=>u.done|none=>false):=by
 rw[abE,l.get];cases g:eO B.t s with
 |none=>
  constructor
  .rintro⟨j,a,_,c,_⟩;exact absurd c (RX g _ (ă a))
  intro e;cases e
 |some u=>
  obtain⟨n,f⟩:=KL g;obtain⟨i,hi,e⟩:=ķ.1 n;dsimp only;constructor
  .rintro⟨j,a,_,c,d⟩;have:i=j:=by
    by_cases k:i<j
    .exact absurd (by rw[e,f,c]) (ħ.1 h.Ý i j hi a k)
    by_cases h2:j<i
    .exact absurd (by rw[e,f,c]) (ħ.1 h.Ý j i a hi h2)
    omega
   subst this;rw[<-e];exact d
  intro m;exact⟨i,hi,hi,by rw[e];exact f,by rw[e];exact m⟩
theorem Zro{B:Ze}(h:ê B){D:Ŀ (Ĳ×Bool)}(f:pn D B B.t.length){t:Zd}(d:eA t.k):
  (ZG (ù t.q.kind) D t).Α (!(ù t.q.kind).all λx=>match eO B.t (hM t.k x)with|some u=>u.done|none=>false):=by
 rcases vt t.q.kind with ⟨a,_⟩|⟨x,a,_⟩
 .rw[a]
  exact⟨-1,Cq.Zt (Cq.wp.no ĳ rfl),rfl⟩
 have i:x∈ù t.q.kind:=by rw[a];exact Ĕ.2 rfl
 have e:=(LU i).w
 have g:=Zwk h f (hM t.k x)
 have c:(J4 x D t).Α (!((fg D (hM t.k x)).getD false)):=⟨_,ze d.ok e,y8 d.ok e,rfl⟩
 rw[g]at c
 rw[a]
 simp only[abk,List.all_nil,abO]
 generalize (match eO B.t (hM t.k x)with|some u=>u.done|none=>false:Bool)=b at c
 cases b with
 |true=>exact⟨-1,Cq.Zt (Cq.wp.yes (show(0:Int)<((1:Nat):Int) by decide) ⟨x,⟨ĳ,rfl⟩,_,c,Cq.wp.no ĳ (Cq.Zt (Cq.wp.no (show ¬i64.wrap (0+1)<((1:Nat):Int) by decide) rfl))⟩),rfl⟩
 |false=>exact⟨0,Cq.Zt (Cq.wp.yes (show(0:Int)<((1:Nat):Int) by decide) ⟨x,⟨ĳ,rfl⟩,_,c,Cq.wp.yes rfl rfl⟩),rfl⟩
theorem Zu8{B:Ze}(h:ê B)(q:B.t.length<=100):(KT B).Α (yl B):=by
 obtain⟨D,p,r⟩:=Zx8 h ŉ;refine Cq.eY r ?_;show(Cq.next _ _).wp _;refine Cq.Zn B.t.length (λi s=>s=((B.t.take i).filter (iI B),(i:Int))) (λi s hi d=>?_) (λs d=>?_) rfl
 .subst d;have a:=Ztw (iI B) hi;have f:((B.t.take i).filter (iI B)).length<=100:=ň (ec _ _) (by rw[Č];omega);have l:=(h.can _ (ă hi)).ck.1;have c:iI B B.t[i]=(!B.t[i].done&&decide (B.t[i].ξ<=12)&&(ù B.t[i].q.kind).all λx=>match eO B.t (hM B.t[i].k x)with|some u=>u.done|none=>false):=rfl;refine Cq.wp.yes ŉ ⟨_,Ξ hi,?_⟩;cases j:B.t[i].done with
  |true=>
   have A:iI B B.t[i]=false:=by rw[c,j];rfl
   rw[A,ā ĳ,ę]at a;refine Cq.wp.yes j ?_;show _=_;rw[ψ ŉ,a]
  |false=>
   refine Cq.wp.no (by rw[j];decide) ?_;by_cases g:B.t[i].ξ<=12
   .rw[c,j,Ă g]at a;refine Cq.wp.yes g ⟨_,(FB _).1,_,Zro h p l,?_⟩;generalize ((ù B.t[i].q.kind).all λx=>match eO B.t (hM B.t[i].k x)with|some u=>u.done|none=>false)=b at a;cases b with
    |true=>
     rw[ą ĳ]at a;refine Cq.wp.yes rfl ⟨by simp only[Ā,Ě,Ļ];simp only[small];omega,?_⟩;show _=_;rw[ψ ŉ,a]
    |false=>
     rw[ā ĳ,ę]at a;refine Cq.wp.no ĳ ?_;show _=_;rw[ψ ŉ,a]
   rw[c,ċ g,Bool.and_false,ŵ,ā ĳ,ę]at a;refine Cq.wp.no g ?_;show _=_;rw[ψ ŉ,a]
 subst d;refine Cq.wp.no ŉ ?_;rw[Ĥ];have f:(B.t.filter (iI B)).length<=100:=ň (ec _ _) q;obtain⟨v,y,C,E⟩:=TR f;have e:(ZR (B.t.filter (iI B))).Α (iz B):=⟨_,y,iz B,⟨⟨rfl,rfl,⟨C,E⟩,ŉ⟩,λys n=>ZvJ h n.1 n.2⟩,rfl⟩;refine⟨_,e,?_⟩;have t:=Qg B 13;show(Cq.next _ _).wp _;refine Cq.Zn (iz B).length (λk s=>s=(((iz B).take k).map (·.id),(k:Int))) (λk s l d=>?_) (λs d=>?_) rfl
 .subst d;have m:(iz B).length<=1300:=by
   show((List.range 13).flatMap (jd B)).length<=1300;omega
  refine Cq.wp.yes ŉ ⟨_,Ξ l,by simp only[Ā,ć,Č,Ě,Ļ];simp only[small];omega,?_⟩;show _=_;rw[ψ ŉ,č l,Ī];rfl
 subst d;refine Cq.wp.no ŉ ?_;rw[Ĥ];rfl
end Go.EL

namespace Go.EL
open Go.IntKind (i8 i16 i32 i64 u8 u16 u32 u64)
open Go Go.RowKit
theorem zj(N:Nat)(p:N<=1000)(f:Nat->Bool){step:Int->Cq (Int⊕(Bool⊕Unit))}(h:∀k,k<N->(step (k:Int)).wp λo=>o=if f k=true then .inl (i64.wrap ((k:Int)+1))else .inr (.inl false))
  (a:(step (N:Int)).wp λo=>o=.inr (.inr ())):(Cq.loop step 0).wp λo=>o=if(List.range N).all f=true then .inr ()else .inl false:=by
 refine Cq.Zn N (λk s=>s=(k:Int)/\∀i,i<k->f i=true) (λk s l j=>?_) (λs j=>?_) ⟨rfl,λi hi=>absurd hi (ı _)⟩
 .obtain⟨rfl,d⟩:=j
  refine(step _).mono (λo g=>?_) (h k l)
  subst g
  by_cases c:f k=true
  .rw[ą c]
   refine⟨ψ ŉ,λi m=>?_⟩
   by_cases e:i=k
   .subst e;exact c
   exact d i ŉ
  rw[ā c]
  show _=_
  rw[ā λe=>c (Ć.1 e _ (ĺ.2 l))]
 obtain⟨rfl,d⟩:=j
 refine(step _).mono (λo g=>?_) a
 subst g
 show _=_
 rw[ą (Ć.2 λx n=>d x (ĺ.1 n))]
theorem y7{α:Type}(l:Ŀ α)(g:l.length<=1000)(f:α->Bool){step:Int->Cq (Int⊕(Bool⊕Unit))}(h:∀k (d:k<l.length),(step (k:Int)).wp λo=>o=if f l[k]=true then .inl (i64.wrap ((k:Int)+1))else .inr (.inl false))
  (a:(step (l.length:Int)).wp λo=>o=.inr (.inr ())):(Cq.loop step 0).wp λo=>o=if l.all f=true then .inr ()else .inl false:=by
 have key:=zj l.length g (λk=>(l[k]?.map f).getD true) (step:=step) (λk d=>by have:=h k d;rw[Ą d];exact this) a
 have e:((List.range l.length).all λk=>(l[k]?.map f).getD true)=l.all f:=by
  rw[abE,Ć,Ć];constructor
  .intro c x j;obtain⟨i,hi,rfl⟩:=ž j;have:=c i (ĺ.2 hi);rw[Ą hi]at this;exact this
  intro c i hi;have hi:=ĺ.1 hi;rw[Ą hi];exact c _ (ă hi)
 rw[e]at key
 exact key
def fQ(p:Ú)(n d:Int):Bool:=decide ((ð p).toNat<2 ^ n.toNat)&&decide (gi p<=d)
theorem ZyT{p:Ú}{n:Nat}(e:n<=4):(Int.fdiv (i64.wrap (ð p)) (2 ^ (min (n:Int).toNat i64.bits))=0)↔(ð p).toNat<2 ^ n:=by
 have f:=uf p;rw[wrap64 ŉ];obtain⟨u,c⟩:∃u:Nat,ð p=(u:Int):=⟨(ð p).toNat,ŉ⟩;have d:Int.fdiv (ð p) (2 ^ (min (n:Int).toNat i64.bits))=((u / 2 ^ n:Nat):Int):=by rw[c,ē,ż (show n<=i64.bits from ň e ĳ),aae _ (Int.le_of_lt (Int.pow_pos ĳ))];push_cast;rfl
 rw[d,c,ē];have hp:=aab n;constructor
 .intro a;have a:u / 2 ^ n=0:=ŉ;rcases eH.1 a with h|h
  .omega
  exact h
 intro a;rw[aaI a];rfl
theorem Ke{k:Zb}(f:1<=k.n/\k.n<=4){p:Ú}(h:ω p)(d:Int):(ç ⟨k⟩ p d).Α (fQ p k.n d):=by
 refine⟨true,D4 h,_,FZ h.len,by show 0<=k.n;omega,?_⟩;obtain⟨n,c⟩:∃n:Nat,k.n=(n:Int):=⟨k.n.toNat,ŉ⟩;have hi:=ZyT (p:=p) (n:=n) ŉ;unfold fQ;show Cq.wp (if(Int.fdiv (i64.wrap (ð p)) (2 ^ (min (k.n).toNat i64.bits)))=0 then _ else _) _;rw[c,ē];by_cases a:(ð p).toNat<2 ^ n
 .rw[Ă a,Ť];exact Cq.wp.yes (hi.2 a) ⟨_,yG h,rfl⟩
 rw[ċ a,ŵ];exact Cq.wp.no (λe=>a (hi.1 e)) rfl
theorem Ex{n:Int}(f:1<=n/\n<=4){p:Ú}(h:ω p)(d:Int):(xg p n d).Α (fQ p n d):=by
 obtain⟨n,rfl⟩:∃m:Nat,n=(m:Int):=⟨n.toNat,ŉ⟩;have nM:1<=n/\n<=4:=ŉ;have g:=uf p;have c:u64.wrap (n:Int)=(n:Int):=qJ ⟨ŉ,ŉ⟩;have a:i64.wrap (1*2 ^ (min (n:Int).toNat i64.bits))=((2 ^ n:Nat):Int):=by
  match n,nM with
  |1,_=>rfl
  |2,_=>rfl
  |3,_=>rfl
  |4,_=>rfl
 refine⟨true,Aq h,_,AE h.len,by rw[c];omega,?_⟩;rw[c,a,wrap64 ŉ];unfold fQ;rw[ē];by_cases e:(ð p).toNat<2 ^ n
 .rw[Ă e,Ť];exact Cq.wp.yes ŉ ⟨_,wW h,rfl⟩
 rw[ċ e,ŵ];exact Cq.wp.no ŉ rfl
theorem xC{c:Cq (Bool⊕Unit)}{b:Bool}{k:Bool⊕Unit->Cq Bool}(h:c.wp λo=>o=if b=true then .inr ()else .inl false)(d:k (.inl false)=Cq.ret false)(h2:k (.inr ())=Cq.ret true):(c.next k).wp λa=>a=b:=by
 refine c.mono (λo e=>?_) h;subst e;cases b with
 |false=>rw[ā ĳ,d];rfl
 |true=>rw[ą rfl,h2];rfl
theorem Tu{k:Zb}(a:1<=k.n/\k.n<=4){l:Ŀ Ú}(c:l.length<=3)(h:∀p∈l,ω p):(Æ ⟨k⟩ l).Α (l.all λp=>fQ p k.n 64):=by
 refine Cq.wp.yes ŉ ⟨_,⟨_,xC (y7 l ŉ (λp=>fQ p k.n 64) (λi hi=>?_) ?_) rfl rfl,rfl⟩,rfl⟩
 .refine Cq.wp.yes ŉ ⟨_,Ξ hi,_,⟨_,Ke a (h _ (ă hi)) 64,rfl⟩,?_⟩;cases fQ l[i] k.n 64 with
  |false=>exact Cq.wp.yes rfl rfl
  |true=>exact Cq.wp.no ĳ rfl
 exact Cq.wp.no ŉ rfl
theorem S9{n:Int}(a:1<=n/\n<=4){l:Ŀ Ú}(c:l.length<=3)(h:∀p∈l,ω p):(FW l n).Α (l.all λp=>fQ p n 64):=by
 refine xC (y7 l ŉ (λp=>fQ p n 64) (λi hi=>?_) ?_) rfl rfl
 .refine Cq.wp.yes ŉ ⟨_,Ξ hi,_,Ex a (h _ (ă hi)) 64,?_⟩;cases fQ l[i] n 64 with
  |false=>exact Cq.wp.yes rfl rfl
  |true=>exact Cq.wp.no ĳ rfl
 exact Cq.wp.no ŉ rfl
def lA(s:Ŀ Int):Prop:=s.length<=3/\∀x∈s,-1<=x/\x<=1
theorem Zxs{s:Ŀ Int}(h:lA s):(Jb s).Α true:=by
 have key:=y7 s (by have:=h.1;omega) (λ_=>true) (step:=λa=>if a<(s.length:Int)then(Cq.Κ s a λf=>Cq.bind (JS f) λc=>if(!c)=true then(Cq.ret (.inr (.inl false)))else(Cq.ret (.inl (i64.wrap (a+1)))))else(Cq.ret (.inr (.inr ())))) (λi hi=>?_) ?_
 .have e:(s.all λ_=>true)=true:=Ć.2 λ_ _=>rfl;rw[e]at key;exact Cq.eY key rfl
 .have d:=h.2 _ (ă hi);refine Cq.wp.yes ŉ ⟨_,Ξ hi,true,Cq.wp.yes d.1 ?_,Cq.wp.no ĳ rfl⟩;exact Ă d.2
 exact Cq.wp.no ŉ rfl
theorem Zu7{s:Ŀ Int}(h:lA s):(Lf s).Α true:=by
 have key:=y7 s (by have:=h.1;omega) (λ_=>true) (step:=λa=>if a<(s.length:Int)then(Cq.Κ s a λc=>if c<(-1)then(Cq.ret (.inr (.inl false)))else(Cq.Κ s a λd=>if 1<d then Cq.fail else(Cq.ret (.inl (i64.wrap (a+1))))))else(Cq.ret (.inr (.inr ())))) (λi hi=>?_) ?_
 .have e:(s.all λ_=>true)=true:=Ć.2 λ_ _=>rfl;rw[e]at key;exact Cq.eY key rfl
 .have f:=h.2 _ (ă hi);exact Cq.wp.yes ŉ ⟨_,Ξ hi,Cq.wp.no ŉ ⟨_,Ξ hi,Cq.wp.no ŉ rfl⟩⟩
 exact Cq.wp.no ŉ rfl
def ni(x y m:Int):Ŀ Zl:=[mh x m,mh y m,mh 0 0,mh 0 0,mh 0 0,mh 0 0,mh 0 0,mh 0 0]
def nP(b:Ŀ Zl):Prop:=∃x y m,gN x/\gN y/\iC m/\b=ni x y m
def lk(x:Zl):Bool:=x.lo.num.χ.isEmpty&&x.hi.num.χ.isEmpty
def ic(n:Int)(b:Ŀ Zl):Bool:=decide (2<=n) || (b[1]?.map lk).getD true
theorem ZzU:(á (-128) 127 λn=>(Ν (nN n)).num.χ.isEmpty == decide (n=0))=true:=by decide +kernel
theorem ZzO:(á 0 7 λm=>(Ν (oP 0 m)).num.χ.isEmpty == decide (m=0))=true:=by decide +kernel
def wJ(n m:Int):Bool:=decide (n=0)&&decide (m=0)
theorem T5{n m:Int}(h:gN n)(c:iC m):lk (mh n m)=wJ n m:=by
 have l:=eq_of_beq (Zq ZzU h.1 h.2);unfold lk wJ;show((Ν (nN n)).num.χ.isEmpty&&(Ν (oP n m)).num.χ.isEmpty)=_;rw[l];by_cases a:n=0
 .subst a;rw[eq_of_beq (Zq ZzO c.1 c.2)]
 rw[ċ a];rfl
theorem U9{n m:Int}(h:gN n)(c:iC m):∃a b:Bool,(vy (mh n m).lo).Α a/\(tC (mh n m).lo).Α a/\(a=true->(vy (mh n m).hi).Α b/\(tC (mh n m).hi).Α b)/\lk (mh n m)=(a&&b):=by rw[T5 h c];refine⟨_,_,(Vb h).1,(Vb h).2,λe=>?_,rfl⟩;have e:=ĥ e;subst e;exact ZzM c
theorem L9{x y m:Int}(e:gN x)(f:gN y)(a:iC m){k:Nat}(c:k<8):∃n d,gN n/\iC d/\(0:Int)<=(k:Int)/\(ni x y m)[(k:Int).toNat]?=some (mh n d)/\(2<=k->n=0/\d=0)/\(k=1->n=y/\d=m):=by
 have z:gN 0/\iC 0:=ĳ;match k,c with
 |0,_=>exact⟨x,m,e,a,ĳ,rfl,λh=>absurd h ĳ,λh=>absurd h ĳ⟩
 |1,_=>exact⟨y,m,f,a,ĳ,rfl,λh=>absurd h ĳ,λ_=>⟨rfl,rfl⟩⟩
 |2,_=>exact⟨0,0,z.1,z.2,ĳ,rfl,λ_=>⟨rfl,rfl⟩,λh=>absurd h ĳ⟩
 |3,_=>exact⟨0,0,z.1,z.2,ĳ,rfl,λ_=>⟨rfl,rfl⟩,λh=>absurd h ĳ⟩
 |4,_=>exact⟨0,0,z.1,z.2,ĳ,rfl,λ_=>⟨rfl,rfl⟩,λh=>absurd h ĳ⟩
 |5,_=>exact⟨0,0,z.1,z.2,ĳ,rfl,λ_=>⟨rfl,rfl⟩,λh=>absurd h ĳ⟩
 |6,_=>exact⟨0,0,z.1,z.2,ĳ,rfl,λ_=>⟨rfl,rfl⟩,λh=>absurd h ĳ⟩
 |7,_=>exact⟨0,0,z.1,z.2,ĳ,rfl,λ_=>⟨rfl,rfl⟩,λh=>absurd h ĳ⟩
def gl(n:Int)(b:Ŀ Zl)(k:Nat):Bool:=decide ((k:Int)<n) || (b[(k:Int).toNat]?.map lk).getD true
theorem SV{n:Int}(q:1<=n/\n<=4){b:Ŀ Zl}(h:nP b):(List.range 8).all (gl n b)=ic n b:=by
 obtain⟨x,y,m,j,l,i,rfl⟩:=h;have z:∀k,2<=k->k<8->gl n (ni x y m) k=true:=λk h2 g=>by obtain⟨a,d,_,_,_,e,p,_⟩:=L9 j l i g;obtain⟨rfl,rfl⟩:=p h2;unfold gl;rw[e];show(_ || lk (mh 0 0))=true;rw[T5 ĳ ĳ];exact abA _
 have c:gl n (ni x y m) 0=true:=by unfold gl;rw[decide_eq_true (show((0:Nat):Int)<n by omega)];rfl
 have f:gl n (ni x y m) 1=ic n (ni x y m):=by unfold gl ic;have:decide (((1:Nat):Int)<n)=decide (2<=n):=Ũ.2 ⟨λh=>by omega,λh=>by omega⟩;rw[this];rfl
 show(gl n _ 0&&(gl n _ 1&&(gl n _ 2&&(gl n _ 3&&(gl n _ 4&&(gl n _ 5&&(gl n _ 6&&(gl n _ 7&&true))))))))=_;rw[c,f,z 2 ĳ ĳ,z 3 ĳ ĳ,z 4 ĳ ĳ,z 5 ĳ ĳ,z 6 ĳ ĳ,z 7 ĳ ĳ];simp
theorem Zzk{k:Zb}(p:1<=k.n/\k.n<=4){b:Ŀ Zl}(h:nP b):(dR ⟨k⟩ b).Α (ic k.n b):=by
 rw[<-SV p h];obtain⟨x,y,m,q,r,n,rfl⟩:=h;refine xC (zj 8 ĳ (gl k.n (ni x y m)) (λi hi=>?_) ?_) rfl rfl
 .obtain⟨a,d,g,j,f,e,_,_⟩:=L9 q r n hi;unfold gl;rw[e];show Cq.wp _ λo=>o=if(_ || lk (mh a d))=true then _ else _;by_cases c:(i:Int)<k.n
  .rw[Ă c,Ŭ,ą rfl];exact Cq.wp.yes ŉ ⟨_,⟨f,e⟩,Cq.wp.yes c ⟨true,Zod g j,Cq.wp.no (by show ¬k.n<=(i:Int);omega) rfl⟩⟩
  rw[ċ c,Ľ];obtain⟨u,v,t,s,z3,l⟩:=U9 g j;rw[l];refine Cq.wp.yes ŉ ⟨_,⟨f,e⟩,Cq.wp.no c (Cq.wp.yes (by show k.n<=(i:Int);omega) ⟨u,s,?_⟩)⟩;cases u with
  |false=>rfl
  |true=>
   refine⟨v,(z3 rfl).2,?_⟩;cases v with
   |false=>exact Cq.wp.yes rfl rfl
   |true=>exact Cq.wp.no ĳ rfl
 exact Cq.wp.no ĳ rfl
def kv(b:Ŀ (Ŀ Zl)):Prop:=b.length<=3/\∀x∈b,nP x
theorem SG{k:Zb}(a:1<=k.n/\k.n<=4){l:Ŀ (Ŀ Zl)}(h:kv l):(Ã ⟨k⟩ l).Α (l.all (ic k.n)):=by
 have c:=h.1;refine Cq.wp.yes ŉ ⟨_,xC (y7 l ŉ (ic k.n) (λi hi=>?_) ?_) rfl rfl,rfl⟩
 .refine Cq.wp.yes ŉ ⟨_,Ξ hi,_,Zzk a (h.2 _ (ă hi)),?_⟩;cases ic k.n l[i]with
  |false=>exact Cq.wp.yes rfl rfl
  |true=>exact Cq.wp.no ĳ rfl
 exact Cq.wp.no ŉ rfl
theorem Zzg{n:Int}(t:1<=n/\n<=4){l:Ŀ (Ŀ Zl)}{j:Nat}(r:j<l.length)(h:nP l[j]):(QA l n (j:Int) 0).wp λo=>o=if ic n l[j]=true then .inr ()else .inl false:=by
 rw[<-SV t h];have kl:=Ξ r;obtain⟨x,y,m,A,B,s,p⟩:=h;rw[p]at kl⊢;refine zj 8 ĳ (gl n (ni x y m)) (λi hi=>?_) ?_
 .obtain⟨a,d,f,g,c,e,_,_⟩:=L9 A B s hi;unfold gl;rw[e];show Cq.wp _ λo=>o=if(_ || lk (mh a d))=true then _ else _;by_cases k:(i:Int)<n
  .rw[Ă k,Ŭ,ą rfl];exact Cq.wp.yes ŉ ⟨_,kl,_,⟨c,e⟩,true,Qc f g,Cq.wp.no ŉ rfl⟩
  rw[ċ k,Ľ];obtain⟨u,v,C,D,z3,q⟩:=U9 f g;rw[q];refine Cq.wp.yes ŉ ⟨_,kl,_,⟨c,e⟩,true,Qc f g,Cq.wp.yes ŉ ⟨_,kl,_,⟨c,e⟩,u,C,?_⟩⟩;cases u with
  |false=>rfl
  |true=>
   refine⟨_,kl,_,⟨c,e⟩,v,(z3 rfl).1,?_⟩;cases v with
   |false=>exact Cq.wp.yes rfl rfl
   |true=>exact Cq.wp.no ĳ rfl
 exact Cq.wp.no ĳ rfl
theorem RR{n:Int}(a:1<=n/\n<=4){l:Ŀ (Ŀ Zl)}(h:kv l):(FG l n).Α (l.all (ic n)):=by
 have c:=h.1;refine Cq.wp.no ŉ (xC (y7 l ŉ (ic n) (λi hi=>?_) ?_) rfl rfl)
 .refine Cq.wp.yes ŉ (Cq.eY (Zzg a hi (h.2 _ (ă hi))) ?_);cases ic n l[i]with
  |false=>rfl
  |true=>rfl
 exact Cq.wp.no ŉ rfl
end Go.EL

namespace Go.EL
open Go.IntKind (i8 i16 i32 i64 u8 u16 u32 u64)
open Go Go.RowKit
theorem Cq.wp.nr{α:Type}{p:Prop}[Decidable p]{A B:Cq α}{q:α->Prop}(e:decide p=false)(h:B.wp q):(if p then A else B).wp q:=Cq.wp.no (aaV e) h
def rQ(l:Ŀ Ú):Prop:=l.length<=3/\∀p∈l,ω p
inductive Ë:Zj->Prop
 |ia (c:Int) (p:Ú):c=1\/c=2\/c=10->ω p->Ë ⟨c,p,0,0,0,[],[],[],[]⟩
 |nil (c:Int):c=3\/c=9->Ë ⟨c,[],0,0,0,[],[],[],[]⟩
 |G6 (o:Ord) (l:Ŀ Ú):o∈kV->rQ l->Ë ⟨4,[],0,0,0,o,l,[],[]⟩
 |BU (n d:Int):0<=n/\n<=15->-1<=d/\d<=2->Ë ⟨5,[],n,d,0,[],[],[],[]⟩
 |HR (n d r:Int):0<=r/\r<=d/\d<=n/\n<=7->Ë ⟨6,[],n,d,r,[],[],[],[]⟩
 |box (b:Ŀ (Ŀ Zl)):kv b->Ë ⟨7,[],0,0,0,[],[],[],b⟩
 |sig (p:Ú) (s:Ŀ Int) (b:Ŀ (Ŀ Zl)):ω p->lA s->s.length=b.length->kv b->Ë ⟨8,p,0,0,0,[],[],s,b⟩
 |u2 (l:Ŀ Ú):rQ l->Ë ⟨11,[],0,0,0,[],l,[],[]⟩
 |zJ (c n:Int):c=12\/c=13->0<=n/\n<=7->Ë ⟨c,[],n,0,0,[],[],[],[]⟩
def ã(k:Zb)(c:Zj):Bool:=fQ c.p k.n 12&&c.l.all (λp=>fQ p k.n 64)&&c.b.all (ic k.n)&&(decide (c.kind≠5) || decide (c.d<=k.n))
theorem oB{n:Int}:fQ [] n 12=true:=by have h:(ð []).toNat<2 ^ n.toNat:=aab _;unfold fQ;rw[Ă h];rfl
theorem tB:(ZP ⟨0,[],0,0,0,[],[],[],[]⟩).Α true:=Cq.Α.mm 20 (by decide +kernel)
theorem Zn1{k:Zb}(h:æ k){c:Zj}(u:Ë c):(EJ k c).Α (ã k c):=by
 have i:=h.n;have B:(Ä ⟨k⟩).Α true:=by have:=Ff h;obtain⟨v,t,h2⟩:=this;have h2:v=true:=h2;subst h2;exact t
 refine⟨_,⟨true,B,Cq.wp.nr rfl ?_⟩,rfl⟩;cases u with
 |ia c p g hp=>
  have e:ã k ⟨c,p,0,0,0,[],[],[],[]⟩=fQ p k.n 12:=by unfold ã;rw[Ă (show c≠5 by omega)];simp
  rw[e];have k3:(í ⟨⟨k⟩,⟨c,p,0,0,0,[],[],[],[]⟩⟩ true).Α (fQ p k.n 12):=by
   refine Cq.wp.yes rfl ⟨_,Ke i hp 12,?_⟩;cases fQ p k.n 12 with
   |false=>exact Cq.wp.nr rfl rfl
   |true=>exact Cq.wp.yes rfl ⟨_,tB,rfl⟩
  rcases g with rfl|rfl|rfl
  .exact Cq.wp.yes rfl k3
  .exact Cq.wp.nr rfl (Cq.wp.yes rfl k3)
  exact Cq.wp.nr rfl (Cq.wp.nr rfl k3)
 |nil c g=>
  have e:ã k ⟨c,[],0,0,0,[],[],[],[]⟩=true:=by unfold ã;rw[Ă (show c≠5 by omega),oB];rfl
  rw[e];have k2:(û ⟨⟨k⟩,⟨c,[],0,0,0,[],[],[],[]⟩⟩ true).Α true:=Cq.wp.yes rfl (by
   rcases g with rfl|rfl
   .exact⟨_,tB,rfl⟩
   exact⟨_,tB,rfl⟩)
  rcases g with rfl|rfl
  .exact Cq.wp.nr rfl (Cq.wp.nr rfl (Cq.wp.nr rfl (Cq.wp.yes rfl k2)))
  exact Cq.wp.nr rfl (Cq.wp.nr rfl (Cq.wp.nr rfl (Cq.wp.nr rfl k2)))
 |G6 o l y f=>
  have e:ã k ⟨4,[],0,0,0,o,l,[],[]⟩=l.all λp=>fQ p k.n 64:=by unfold ã;rw[oB];simp
  rw[e];refine Cq.wp.nr rfl (Cq.wp.nr rfl (Cq.wp.nr rfl (Cq.wp.nr rfl (Cq.wp.nr rfl (Cq.wp.yes rfl ⟨true,Fe (kM.of (kd.b (.inl y)).1),_,Tu i f.1 f.2,?_⟩)))));cases l.all λp=>fQ p k.n 64 with
  |false=>exact Cq.wp.nr rfl rfl
  |true=>exact Cq.wp.yes rfl ⟨_,tB,rfl⟩
 |BU n d j x=>
  have e:ã k ⟨5,[],n,d,0,[],[],[],[]⟩=decide (d<=k.n):=by unfold ã;rw[oB];simp
  rw[e];refine Cq.wp.nr rfl (Cq.wp.nr rfl (Cq.wp.nr rfl (Cq.wp.nr rfl (Cq.wp.nr rfl (Cq.wp.nr rfl (Cq.wp.yes rfl (Cq.wp.yes x.1 ?_)))))));by_cases a:d<=k.n
  .rw[Ă a];exact Cq.wp.yes a ⟨true,Cq.wp.yes j.1 (Ă (show n<=1000000 by omega)),Cq.wp.yes rfl ⟨_,tB,rfl⟩⟩
  rw[ċ a];exact Cq.wp.no a rfl
 |HR n d r hr=>
  have e:ã k ⟨6,[],n,d,r,[],[],[],[]⟩=true:=by unfold ã;rw[oB];rfl
  rw[e];refine Cq.wp.nr rfl (Cq.wp.nr rfl (Cq.wp.nr rfl (Cq.wp.nr rfl (Cq.wp.nr rfl (Cq.wp.nr rfl (Cq.wp.nr rfl (Cq.wp.yes rfl ?_)))))));exact Cq.wp.yes hr.1 (Cq.wp.yes hr.2.1 (Cq.wp.yes hr.2.2.1 ⟨true,Cq.wp.yes (show 0<=n by omega) (Ă (show n<=1000000 by omega)),Cq.wp.yes rfl ⟨_,tB,rfl⟩⟩))
 |box b m=>
  have e:ã k ⟨7,[],0,0,0,[],[],[],b⟩=b.all (ic k.n):=by unfold ã;rw[oB];simp
  rw[e];refine Cq.wp.nr rfl (Cq.wp.nr rfl (Cq.wp.nr rfl (Cq.wp.nr rfl (Cq.wp.nr rfl (Cq.wp.nr rfl (Cq.wp.nr rfl (Cq.wp.nr rfl (Cq.wp.yes rfl ⟨_,SG i m,?_⟩))))))));cases b.all (ic k.n)with
  |false=>exact Cq.wp.nr rfl rfl
  |true=>exact Cq.wp.yes rfl ⟨_,tB,rfl⟩
 |sig p s b hp A f m=>
  have e:ã k ⟨8,p,0,0,0,[],[],s,b⟩=(fQ p k.n 12&&b.all (ic k.n)):=by unfold ã;simp
  rw[e];refine Cq.wp.nr rfl (Cq.wp.nr rfl (Cq.wp.nr rfl (Cq.wp.nr rfl (Cq.wp.nr rfl (Cq.wp.nr rfl (Cq.wp.nr rfl (Cq.wp.nr rfl (Cq.wp.nr rfl (Cq.wp.yes rfl ⟨_,Ke i hp 12,?_⟩)))))))));cases fQ p k.n 12 with
  |false=>rfl
  |true=>
   refine⟨_,SG i m,?_⟩;cases b.all (ic k.n)with
   |false=>rfl
   |true=>exact Cq.wp.yes (show(s.length:Int)=(b.length:Int) by rw[f]) ⟨true,Zxs A,Cq.wp.yes rfl ⟨_,tB,rfl⟩⟩
 |u2 l f=>
  have e:ã k ⟨11,[],0,0,0,[],l,[],[]⟩=l.all λp=>fQ p k.n 64:=by unfold ã;rw[oB];simp
  rw[e];refine Cq.wp.nr rfl (Cq.wp.nr rfl (Cq.wp.nr rfl (Cq.wp.nr rfl (Cq.wp.nr rfl (Cq.wp.nr rfl (Cq.wp.nr rfl (Cq.wp.nr rfl (Cq.wp.nr rfl (Cq.wp.nr rfl (Cq.wp.yes rfl ⟨_,Tu i f.1 f.2,?_⟩))))))))));cases l.all λp=>fQ p k.n 64 with
  |false=>exact Cq.wp.nr rfl rfl
  |true=>exact Cq.wp.yes rfl ⟨_,tB,rfl⟩
 |zJ c n g j=>
  have e:ã k ⟨c,[],n,0,0,[],[],[],[]⟩=true:=by unfold ã;rw[Ă (show c≠5 by omega),oB];rfl
  rw[e];have q:(ú ⟨⟨k⟩,⟨c,[],n,0,0,[],[],[],[]⟩⟩ true).Α true:=
   Cq.wp.yes rfl ⟨true,Cq.wp.yes j.1 (Ă (show n<=1000000 by omega)),Cq.wp.yes rfl ⟨_,tB,rfl⟩⟩
  rcases g with rfl|rfl
  .exact Cq.wp.nr rfl (Cq.wp.nr rfl (Cq.wp.nr rfl (Cq.wp.nr rfl (Cq.wp.nr rfl (Cq.wp.nr rfl (Cq.wp.nr rfl (Cq.wp.nr rfl (Cq.wp.nr rfl (Cq.wp.nr rfl (Cq.wp.nr rfl (Cq.wp.yes rfl q)))))))))))
  exact Cq.wp.nr rfl (Cq.wp.nr rfl (Cq.wp.nr rfl (Cq.wp.nr rfl (Cq.wp.nr rfl (Cq.wp.nr rfl (Cq.wp.nr rfl (Cq.wp.nr rfl (Cq.wp.nr rfl (Cq.wp.nr rfl (Cq.wp.nr rfl (Cq.wp.nr rfl q)))))))))))
end Go.EL

namespace Go.EL
open Go.IntKind (i8 i16 i32 i64 u8 u16 u32 u64)
open Go Go.RowKit
theorem Zu3{k:Zb}(h:æ k){c:Zj}(y:Ë c):(FF k c).Α (ã k c):=by
 have m:=h.n;refine⟨true,Kd h,Cq.wp.nr rfl ?_⟩;have a:(xg [] k.n 12).Α true:=by have:=Ex m (ω.of ĳ:ω []) 12;rwa [oB]at this
 cases y with
 |ia c p q hp=>
  have e:ã k ⟨c,p,0,0,0,[],[],[],[]⟩=fQ p k.n 12:=by unfold ã;rw[Ă (show c≠5 by omega)];simp
  rw[e];refine Cq.wp.yes rfl (Cq.wp.yes rfl ⟨_,Ex m hp 12,?_⟩);have k3:(AF k ⟨c,p,0,0,0,[],[],[],[]⟩ (decide ((0:Int)=0)) (fQ p k.n 12) true).Α (fQ p k.n 12):=by
   refine Cq.wp.yes rfl ?_;cases fQ p k.n 12 with
   |false=>exact Cq.wp.nr rfl rfl
   |true=>exact Cq.wp.yes rfl (Cq.wp.yes rfl (Cq.wp.yes rfl (Cq.wp.yes rfl (Cq.wp.yes rfl rfl))))
  rcases q with rfl|rfl|rfl
  .exact Cq.wp.yes rfl k3
  .exact Cq.wp.nr rfl (Cq.wp.yes rfl k3)
  exact Cq.wp.nr rfl (Cq.wp.nr rfl k3)
 |nil c q=>
  have e:ã k ⟨c,[],0,0,0,[],[],[],[]⟩=true:=by unfold ã;rw[Ă (show c≠5 by omega),oB];rfl
  rw[e];refine Cq.wp.yes rfl (Cq.wp.yes rfl ⟨_,a,?_⟩);have k2:(EB k ⟨c,[],0,0,0,[],[],[],[]⟩ (decide ((0:Int)=0)) true true).Α true:=
   Cq.wp.yes rfl (Cq.wp.yes rfl (Cq.wp.yes rfl (Cq.wp.yes rfl (Cq.wp.yes rfl (Cq.wp.yes rfl rfl)))))
  rcases q with rfl|rfl
  .exact Cq.wp.nr rfl (Cq.wp.nr rfl (Cq.wp.nr rfl (Cq.wp.yes rfl k2)))
  exact Cq.wp.nr rfl (Cq.wp.nr rfl (Cq.wp.nr rfl (Cq.wp.nr rfl k2)))
 |G6 o l B j=>
  have e:ã k ⟨4,[],0,0,0,o,l,[],[]⟩=l.all λp=>fQ p k.n 64:=by unfold ã;rw[oB];simp
  rw[e];refine Cq.wp.yes rfl (Cq.wp.yes rfl ⟨_,a,Cq.wp.nr rfl (Cq.wp.nr rfl (Cq.wp.nr rfl (Cq.wp.nr rfl (Cq.wp.nr rfl (Cq.wp.yes rfl ?_)))))⟩);exact Cq.wp.yes rfl (Cq.wp.yes rfl (Cq.wp.yes rfl (Cq.wp.yes rfl ⟨true,EI (kM.of (kd.b (.inl B)).1),Cq.wp.yes (by have:=j.1;show(l.length:Int)<=64;omega) ⟨_,S9 m j.1 j.2,rfl⟩⟩)))
 |BU n d t A=>
  have e:ã k ⟨5,[],n,d,0,[],[],[],[]⟩=decide (d<=k.n):=by unfold ã;rw[oB];simp
  rw[e];have g:∀v,(wV k ⟨5,[],n,d,0,[],[],[],[]⟩ v).Α (decide (d<=k.n)):=λv=>by
   refine⟨_,a,Cq.wp.nr rfl (Cq.wp.nr rfl (Cq.wp.nr rfl (Cq.wp.nr rfl (Cq.wp.nr rfl (Cq.wp.nr rfl (Cq.wp.yes rfl ?_))))))⟩;refine Cq.wp.yes rfl (Cq.wp.yes rfl (Cq.wp.yes rfl (Cq.wp.yes rfl (Cq.wp.yes rfl (Cq.wp.yes rfl (Cq.wp.yes A.1 ?_))))));by_cases i:d<=k.n
   .rw[Ă i];exact Cq.wp.yes i ⟨true,Cq.wp.yes t.1 (Ă (show n<=1000000 by omega)),rfl⟩
   rw[ċ i];exact Cq.wp.no i rfl
  by_cases f:n=0
  .by_cases h2:d=0
   .exact Cq.wp.yes f (Cq.wp.yes h2 (g _))
   exact Cq.wp.yes f (Cq.wp.no h2 (g _))
  exact Cq.wp.no f (g _)
 |HR n d r hr=>
  have e:ã k ⟨6,[],n,d,r,[],[],[],[]⟩=true:=by unfold ã;rw[oB];rfl
  rw[e];have g:∀v,(wV k ⟨6,[],n,d,r,[],[],[],[]⟩ v).Α true:=λv=>by refine⟨_,a,Cq.wp.nr rfl (Cq.wp.nr rfl (Cq.wp.nr rfl (Cq.wp.nr rfl (Cq.wp.nr rfl (Cq.wp.nr rfl (Cq.wp.nr rfl (Cq.wp.yes rfl ?_)))))))⟩;exact Cq.wp.yes rfl (Cq.wp.yes rfl (Cq.wp.yes rfl (Cq.wp.yes rfl (Cq.wp.yes rfl ⟨true,Cq.wp.yes (show 0<=n by omega) (Ă (show n<=1000000 by omega)),Cq.wp.yes hr.1 (Cq.wp.yes hr.2.1 (Ă hr.2.2.1))⟩))))
  by_cases f:n=0
  .by_cases h2:d=0
   .exact Cq.wp.yes f (Cq.wp.yes h2 (g _))
   exact Cq.wp.yes f (Cq.wp.no h2 (g _))
  exact Cq.wp.no f (g _)
 |box b u=>
  have e:ã k ⟨7,[],0,0,0,[],[],[],b⟩=b.all (ic k.n):=by unfold ã;rw[oB];simp
  rw[e];refine Cq.wp.yes rfl (Cq.wp.yes rfl ⟨_,a,Cq.wp.nr rfl (Cq.wp.nr rfl (Cq.wp.nr rfl (Cq.wp.nr rfl (Cq.wp.nr rfl (Cq.wp.nr rfl (Cq.wp.nr rfl (Cq.wp.nr rfl (Cq.wp.yes rfl ?_))))))))⟩);exact Cq.wp.yes rfl (Cq.wp.yes rfl (Cq.wp.yes rfl (Cq.wp.yes rfl (Cq.wp.yes rfl ⟨_,RR m u,rfl⟩))))
 |sig p s b hp C j u=>
  have e:ã k ⟨8,p,0,0,0,[],[],s,b⟩=(fQ p k.n 12&&b.all (ic k.n)):=by unfold ã;simp
  rw[e];refine Cq.wp.yes rfl (Cq.wp.yes rfl ⟨_,Ex m hp 12,Cq.wp.nr rfl (Cq.wp.nr rfl (Cq.wp.nr rfl (Cq.wp.nr rfl (Cq.wp.nr rfl (Cq.wp.nr rfl (Cq.wp.nr rfl (Cq.wp.nr rfl (Cq.wp.nr rfl (Cq.wp.yes rfl ?_)))))))))⟩);cases fQ p k.n 12 with
  |false=>exact Cq.wp.nr rfl rfl
  |true=>
   refine Cq.wp.yes rfl (Cq.wp.yes rfl (Cq.wp.yes rfl (Cq.wp.yes rfl ⟨_,RR m u,?_⟩)));cases b.all (ic k.n)with
   |false=>rfl
   |true=>exact Cq.wp.yes (show(s.length:Int)=(b.length:Int) by rw[j]) ⟨true,Zu7 C,rfl⟩
 |u2 l j=>
  have e:ã k ⟨11,[],0,0,0,[],l,[],[]⟩=l.all λp=>fQ p k.n 64:=by unfold ã;rw[oB];simp
  rw[e];refine Cq.wp.yes rfl (Cq.wp.yes rfl ⟨_,a,Cq.wp.nr rfl (Cq.wp.nr rfl (Cq.wp.nr rfl (Cq.wp.nr rfl (Cq.wp.nr rfl (Cq.wp.nr rfl (Cq.wp.nr rfl (Cq.wp.nr rfl (Cq.wp.nr rfl (Cq.wp.nr rfl (Cq.wp.yes rfl ?_))))))))))⟩);exact Cq.wp.yes rfl (Cq.wp.yes rfl (Cq.wp.yes rfl (Cq.wp.yes rfl (Cq.wp.yes rfl (Cq.wp.yes (by have:=j.1;show(l.length:Int)<=64;omega) ⟨_,S9 m j.1 j.2,rfl⟩)))))
 |zJ c n q t=>
  have e:ã k ⟨c,[],n,0,0,[],[],[],[]⟩=true:=by unfold ã;rw[Ă (show c≠5 by omega),oB];rfl
  rw[e];have x:(EA ⟨c,[],n,0,0,[],[],[],[]⟩ true).Α true:=
   Cq.wp.yes rfl (Cq.wp.yes rfl (Cq.wp.yes rfl (Cq.wp.yes rfl (Cq.wp.yes rfl (Cq.wp.yes rfl (Cq.wp.yes rfl (Cq.wp.yes rfl ⟨true,Cq.wp.yes t.1 (Ă (show n<=1000000 by omega)),rfl⟩)))))))
  have g:∀v,(wV k ⟨c,[],n,0,0,[],[],[],[]⟩ v).Α true:=λv=>by
   refine⟨_,a,?_⟩;rcases q with rfl|rfl
   .exact Cq.wp.nr rfl (Cq.wp.nr rfl (Cq.wp.nr rfl (Cq.wp.nr rfl (Cq.wp.nr rfl (Cq.wp.nr rfl (Cq.wp.nr rfl (Cq.wp.nr rfl (Cq.wp.nr rfl (Cq.wp.nr rfl (Cq.wp.nr rfl (Cq.wp.yes rfl x)))))))))))
   exact Cq.wp.nr rfl (Cq.wp.nr rfl (Cq.wp.nr rfl (Cq.wp.nr rfl (Cq.wp.nr rfl (Cq.wp.nr rfl (Cq.wp.nr rfl (Cq.wp.nr rfl (Cq.wp.nr rfl (Cq.wp.nr rfl (Cq.wp.nr rfl (Cq.wp.nr rfl x)))))))))))
  by_cases f:n=0
  .exact Cq.wp.yes f (Cq.wp.yes rfl (g _))
  exact Cq.wp.no f (g _)
end Go.EL

namespace Go.EL
open Go.IntKind (i8 i16 i32 i64 u8 u16 u32 u64)
open Go Go.RowKit
theorem SI{p q:Ú}(hp:ω p)(a:ω q):decide (ë p q=0)=decide (p=q):=by refine Ũ.2 ⟨A3 hp.gp a.gp,?_⟩;rintro rfl;exact xy p
theorem Sq{p q:Ú}(hp:ω p)(a:ω q):(ZU p q).Α (decide (p=q)):=by have:=Fc hp.gp a.gp;rwa [SI hp a]at this
theorem Sf{p q:Ú}(hp:ω p)(a:ω q):(tX p q).Α (decide (p=q)):=by have:=KB hp.gp a.gp;rwa [SI hp a]at this
def n9(a b:Ord)(k:Nat):Bool:=decide (a[k]?=b[k]?)
theorem Ug{a b:Ord}(h:a.length=b.length):(List.range a.length).all (n9 a b)=decide (a=b):=by
 rw[abE,Ć,Ę];constructor
 .intro c;refine ŷ λk=>?_;by_cases d:k<a.length
  .exact ĥ (c k (ĺ.2 d))
  rw[ł ŉ,ł ŉ]
 rintro rfl k _;exact Ă rfl
theorem Uf{a b:Ord}{k:Nat}(c:k<a.length)(d:k<b.length):n9 a b k=decide (a[k]=b[k]):=by unfold n9;rw[Ą c,Ą d];exact Ũ.2 ⟨λe=>Ŧ e,λe=>đ some e⟩
theorem Zsq{a b:Ord}(f:a.length<=1000):(Et a b).Α (decide (a=b)):=by
 by_cases d:a.length=b.length
 .refine Cq.wp.no (λe=>e ŉ) ?_;rw[<-Ug d];refine xC (zj a.length f (n9 a b) (λk c=>?_) ?_) rfl rfl
  .rw[Uf c ŉ];refine Cq.wp.yes ŉ ⟨_,Ξ c,_,Ξ (show k<b.length by omega),?_⟩;by_cases e:a[k]=b[k]
   .rw[Ă e];exact Cq.wp.no (λh=>h e) rfl
   rw[ċ e];exact Cq.wp.yes e rfl
  exact Cq.wp.no ŉ rfl
 refine Cq.wp.yes ŉ ?_;show _=_;rw[ċ λe=>d (đ List.length e)]
theorem Zpz{a b:Ord}(f:a.length<=1000):(FR a b).Α (decide (a=b)):=by
 by_cases d:a.length=b.length
 .refine Cq.wp.no (λe=>e ŉ) ?_;rw[<-Ug d];refine xC (zj a.length f (n9 a b) (λk c=>?_) ?_) rfl rfl
  .rw[Uf c ŉ];refine Cq.wp.yes ŉ ⟨_,Ξ c,_,Ξ (show k<b.length by omega),?_⟩;by_cases e:a[k]=b[k]
   .rw[Ă e];exact Cq.wp.no (λh=>h e) rfl
   rw[ċ e];exact Cq.wp.yes e rfl
  exact Cq.wp.no ŉ rfl
 refine Cq.wp.yes ŉ ?_;show _=_;rw[ċ λe=>d (đ List.length e)]
theorem Ë.parts{c:Zj}(h:Ë c):ω c.p/\kd c.o/\(0<=c.n/\c.n<=15)/\(0<=c.r/\c.r<=15)/\c.b.length<=3:=by
 have p0:ω []:=ω.of ĳ;have o0:kd []:=(fa.nil 0).o;have z:(0:Int)<=0/\(0:Int)<=15:=ĳ;have l0:([]:Ŀ (Ŀ Zl)).length<=3:=ĳ;cases h with
 |ia c p _ hp=>exact⟨hp,o0,z,z,l0⟩
 |nil c _=>exact⟨p0,o0,z,z,l0⟩
 |G6 o l f _=>exact⟨p0,.inl f,z,z,l0⟩
 |BU n d e _=>exact⟨p0,o0,e,z,l0⟩
 |HR n d r h=>exact⟨p0,o0,by show 0<=n/\n<=15;omega,by show 0<=r/\r<=15;omega,l0⟩
 |box b a=>exact⟨p0,o0,z,z,a.1⟩
 |sig p s b hp _ _ a=>exact⟨hp,o0,z,z,a.1⟩
 |u2 l _=>exact⟨p0,o0,z,z,l0⟩
 |zJ c n _ e=>exact⟨p0,o0,by show 0<=n/\n<=15;omega,z,l0⟩
def qL(k:Zb)(q:Zc)(c:Zj):Bool:=
 if q.kind=1 then decide (c.kind=1\/c.kind=2)&&decide (q.p=c.p)
 else if q.kind=2 then decide (c.kind=3) || (decide (c.kind=2)&&decide (k.ε=[])&&decide (c.p=jc))
 else if q.kind=3 then decide (c.kind=4)&&decide (q.o=c.o)
 else if q.kind=4 then decide (c.kind=5)
 else if q.kind=5 then decide (c.kind=6)
 else if q.kind=6 then decide (c.kind=7)
 else if q.kind=7 then decide (c.kind=8)&&decide (q.p=c.p)
 else if q.kind=8 then decide (c.kind=9) || decide (c.kind=6) || (decide (c.kind=13)&&decide (1<=c.n))
 else if q.kind=9 then decide (c.kind=10)&&decide (q.p=c.p)
 else if q.kind=10 then decide (c.kind=11)else false
theorem ZT{α:Type}{p:Prop}[Decidable p]{A B:Cq α}{a b:α}(c:p->A.Α a)(h2:¬p->B.Α b):(if p then A else B).Α (if p then a else b):=by
 by_cases h:p
 .refine Cq.wp.yes h ?_;rw[ą h];exact c h
 refine Cq.wp.no h ?_;rw[ā h];exact h2 h
theorem pA{p:Prop}[Decidable p]{A:Cq Bool}{b:Bool}(h:A.Α b):(if p then A else Cq.ret false).Α (decide p&&b):=by
 by_cases hp:p
 .rw[Ă hp,Ť];exact Cq.wp.yes hp h
 rw[ċ hp,ŵ];exact Cq.wp.no hp rfl
theorem CN{α:Type}[DecidableEq α](l:Ŀ α):decide ((l.length:Int)=0)=decide (l=[]):=by
 cases l with
 |nil=>rfl
 |cons a l=>simp;omega
theorem ZsF{k:Zb}{q:Zc}(j:fa q){c:Zj}(g:Ë c):(JF k q c).Α (qL k q c):=by
 obtain⟨hp,i,_⟩:=g.parts;have f:(Cq.bind (ZU c.p q.p) λy=>Cq.ret y).Α (decide (q.p=c.p)):=by have:=Sq hp j.p;rw[show decide (c.p=q.p)=decide (q.p=c.p)from Ũ.2 ⟨Eq.symm,Eq.symm⟩]at this;exact⟨_,this,rfl⟩
 have hr:(Cq.bind (Et c.o q.o) λy=>Cq.ret y).Α (decide (q.o=c.o)):=by have:=Zsq (b:=q.o) (show c.o.length<=1000 by have:=(kM.of i.b.1).len;omega);rw[show decide (c.o=q.o)=decide (q.o=c.o)from Ũ.2 ⟨Eq.symm,Eq.symm⟩]at this;exact⟨_,this,rfl⟩
 unfold qL;refine ZT (λ_=>?_) λ_=>ZT (λ_=>?_) λ_=>ZT (λ_=>pA hr) λ_=>ZT (λ_=>rfl) λ_=>ZT (λ_=>rfl) λ_=>ZT (λ_=>rfl) λ_=>ZT (λ_=>pA f) λ_=>ZT (λ_=>?_) λ_=>ZT (λ_=>pA f) λ_=>ZT (λ_=>rfl) λ_=>rfl
 .by_cases a:c.kind=1
  .rw[Ă (show c.kind=1\/c.kind=2 from .inl a),Ť];exact Cq.wp.yes a f
  rw[show decide (c.kind=1\/c.kind=2)=decide (c.kind=2)from Ũ.2 ⟨λh=>h.resolve_left a,.inr⟩];exact Cq.wp.no a (pA f)
 .refine⟨þ 1,(xL (n:=1) ĳ).2,jc,qh,?_⟩;by_cases h3:c.kind=3
  .rw[Ă h3,Ŭ];exact Cq.wp.yes h3 rfl
  rw[ċ h3,Ľ,Bool.and_assoc,<-CN];exact Cq.wp.no h3 (pA (pA ⟨_,Sq hp Bw,rfl⟩))
 by_cases e:c.kind=9
 .rw[Ă e,Ŭ,Ŭ];exact Cq.wp.yes e rfl
 rw[ċ e,Ľ];refine Cq.wp.no e ?_;by_cases d:c.kind=6
 .rw[Ă d,Ŭ];exact Cq.wp.yes d rfl
 rw[ċ d,Ľ];exact Cq.wp.no d (pA rfl)
theorem Zq8{k:Zb}{q:Zc}(f:fa q){c:Zj}(g:Ë c):(J9 k q c).Α (qL k q c):=by
 obtain⟨hp,i,_⟩:=g.parts;refine⟨_,Sf f.p hp,?_⟩;have hr:(Cq.bind (FR q.o c.o) λy=>Cq.ret y).Α (decide (q.o=c.o)):=⟨_,Zpz (show q.o.length<=1000 by have:=(kM.of f.o.b.1).len;omega),rfl⟩;unfold qL;refine ZT (λ_=>?_) λ_=>ZT (λ_=>?_) λ_=>ZT (λ_=>pA hr) λ_=>ZT (λ_=>rfl) λ_=>ZT (λ_=>rfl) λ_=>ZT (λ_=>rfl) λ_=>ZT (λ_=>pA rfl) λ_=>ZT (λ_=>?_) λ_=>ZT (λ_=>pA rfl) λ_=>ZT (λ_=>rfl) λ_=>rfl
 .by_cases a:c.kind=1
  .rw[Ă (show c.kind=1\/c.kind=2 from .inl a),Ť];exact Cq.wp.yes a rfl
  rw[show decide (c.kind=1\/c.kind=2)=decide (c.kind=2)from Ũ.2 ⟨λh=>h.resolve_left a,.inr⟩];exact Cq.wp.no a (pA rfl)
 .by_cases h3:c.kind=3
  .rw[Ă h3,Ŭ];exact Cq.wp.yes h3 rfl
  rw[ċ h3,Ľ,show(decide (c.kind=2)&&decide (k.ε=[])&&decide (c.p=jc))=(decide (k.ε=[])&&(decide (c.kind=2)&&decide (c.p=jc))) by rw[Bool.and_comm (decide (c.kind=2)),Bool.and_assoc],<-CN];exact Cq.wp.no h3 (pA (pA ⟨_,(xL (n:=1) ĳ).1,jc,qj,_,Sf hp Bw,rfl⟩))
 by_cases e:c.kind=9
 .rw[Ă e,Ŭ,Ŭ];exact Cq.wp.yes e rfl
 rw[ċ e,Ľ];refine Cq.wp.no e ?_;by_cases d:c.kind=6
 .rw[Ă d,Ŭ];exact Cq.wp.yes d rfl
 rw[ċ d,Ľ];exact Cq.wp.no d (pA rfl)
def mu(q:Zc)(c:Zj):Int×Int:=
 if q.kind=5 then(if c.kind=6 then(c.n,c.n)else if c.kind=12 then(0,c.n)else(0,-1))
 else if q.kind=8\/q.kind=6 then(if c.kind=6 then(c.r,c.r)else if c.kind=7\/c.kind=8 then((c.b.length:Int),(c.b.length:Int))else if c.kind=9 then(0,0)else if c.kind=13 then(c.n,-1)else if c.kind=12 then(0,c.n)else(0,-1))
 else(0,-1)
theorem ZuK(q:Zc)(c:Zj):(JR q c).Α (mu q c):=by
 have e:(D5 c (decide (c.kind=8))).Α (if c.kind=8 then((c.b.length:Int),(c.b.length:Int))else if c.kind=9 then(0,0)else if c.kind=13 then(c.n,-1)else if c.kind=12 then(0,c.n)else(0,-1)):=by
  by_cases a:c.kind=8
  .rw[ą a];exact Cq.wp.yes (Ă a) rfl
  rw[ā a];exact Cq.wp.no (by simpa using a) (ZT (λ_=>rfl) λ_=>ZT (λ_=>rfl) λ_=>ZT (λ_=>rfl) λ_=>rfl)
 have k2:(D6 c true).Α (if c.kind=6 then(c.r,c.r)else if c.kind=7\/c.kind=8 then((c.b.length:Int),(c.b.length:Int))else if c.kind=9 then(0,0)else if c.kind=13 then(c.n,-1)else if c.kind=12 then(0,c.n)else(0,-1)):=by
  refine Cq.wp.yes rfl (ZT (λ_=>rfl) λ_=>?_);by_cases h7:c.kind=7
  .rw[ą (Or.inl h7)];refine Cq.wp.yes h7 ?_;rw[Ă h7];exact Cq.wp.yes rfl rfl
  refine Cq.wp.no h7 ?_;rw[show(if c.kind=7\/c.kind=8 then((c.b.length:Int),(c.b.length:Int))else if c.kind=9 then(0,0)else if c.kind=13 then(c.n,-1)else if c.kind=12 then(0,c.n)else(0,-1))=(if c.kind=8 then((c.b.length:Int),(c.b.length:Int))else if c.kind=9 then(0,0)else if c.kind=13 then(c.n,-1)else if c.kind=12 then(0,c.n)else(0,-1)) by simp only[h7,false_or]];exact e
 unfold mu;refine ZT (λ_=>ZT (λ_=>rfl) λ_=>ZT (λ_=>rfl) λ_=>rfl) λ_=>?_;by_cases a:q.kind=8
 .rw[ą (Or.inl a)];refine Cq.wp.yes a ?_;rw[Ă a];exact k2
 refine Cq.wp.no a ?_;by_cases d:q.kind=6
 .rw[ą (Or.inr d),Ă d];exact k2
 rw[ā ŉ,ċ d];exact Cq.wp.no ĳ rfl
end Go.EL

namespace Go.EL
open Go.IntKind (i8 i16 i32 i64 u8 u16 u32 u64)
open Go Go.RowKit
theorem zv{α:Type}{p:Prop}[Decidable p]{A B:Cq α}{a b:α}(c:p->A.Α a)(h2:¬p->B.Α b):(if decide p=true then A else B).Α (if p then a else b):=by
 by_cases h:p
 .refine Cq.wp.yes (Ă h) ?_;rw[ą h];exact c h
 refine Cq.wp.no (by rw[ċ h];decide) ?_;rw[ā h];exact h2 h
theorem Ztm(q:Zc)(c:Zj):(Kz q c).Α (mu q c):=by
 have i:(yK c true false).Α (if c.kind=6 then(c.n,c.n)else if c.kind=12 then(0,c.n)else(0,-1)):=
  Cq.wp.yes rfl (zv (λ_=>rfl) λ_=>Cq.wp.yes rfl (zv (λ_=>rfl) λ_=>Cq.wp.nr rfl (Cq.wp.nr rfl (Cq.wp.nr rfl (Cq.wp.nr rfl (Cq.wp.nr rfl (Cq.wp.nr rfl rfl)))))))
 have j:(yK c false false).Α (0,-1):=
  Cq.wp.nr rfl (Cq.wp.nr rfl (Cq.wp.nr rfl (Cq.wp.nr rfl (Cq.wp.nr rfl (Cq.wp.nr rfl (Cq.wp.nr rfl (Cq.wp.nr rfl (Cq.wp.nr rfl (Cq.wp.nr rfl (Cq.wp.nr rfl rfl))))))))))
 have g:(yK c false true).Α (if c.kind=12 then(0,c.n)else if c.kind=6 then(c.r,c.r)else if c.kind=7 then((c.b.length:Int),(c.b.length:Int))else if c.kind=8 then((c.b.length:Int),(c.b.length:Int))else if c.kind=9 then(0,0)else if c.kind=13 then(c.n,-1)else(0,-1)):=by refine Cq.wp.nr rfl (Cq.wp.nr rfl (Cq.wp.nr rfl (Cq.wp.yes rfl (zv (λ_=>rfl) λ_=>Cq.wp.yes rfl (zv (λ_=>rfl) λ_=>Cq.wp.yes rfl (ZT (λ_=>Cq.wp.yes rfl rfl) λ_=>?_))))));exact zv (λ_=>rfl) λ_=>Cq.wp.yes rfl (zv (λ_=>rfl) λ_=>Cq.wp.yes rfl (ZT (λ_=>rfl) λ_=>rfl))
 have h:(if c.kind=12 then(0,c.n)else if c.kind=6 then(c.r,c.r)else if c.kind=7 then((c.b.length:Int),(c.b.length:Int))else if c.kind=8 then((c.b.length:Int),(c.b.length:Int))else if c.kind=9 then(0,0)else if c.kind=13 then(c.n,-1)else(0,-1))=(if c.kind=6 then(c.r,c.r)else if c.kind=7\/c.kind=8 then((c.b.length:Int),(c.b.length:Int))else if c.kind=9 then(0,0)else if c.kind=13 then(c.n,-1)else if c.kind=12 then(0,c.n)else(0,-1)):=by
  by_cases a:c.kind=12
  .simp[a]
  by_cases h7:c.kind=7
  .simp[h7]
  simp[a,h7]
 rw[h]at g;unfold mu;by_cases f:q.kind=8
 .refine Cq.wp.yes f ?_;rw[ā ŉ,ą (Or.inl f),ċ ŉ];exact g
 refine Cq.wp.no f ?_;by_cases d:q.kind=5
 .rw[ą d,Ă d,ċ ŉ];exact i
 rw[ā d,ċ d];by_cases e:q.kind=6
 .rw[ą (Or.inr e),Ă e];exact g
 rw[ā ŉ,ċ e];exact j
def yc(a b:Int):Int:=if a<b then b else a
def ou(a b:Int):Int:=if 0<=b then(if a<0 then b else if b<a then b else a)else a
theorem WA{a b:Int}(c:0<=b)(d:a<0):ou a b=b:=by unfold ou;rw[if_pos c,if_pos d]
theorem Cc{a b:Int}(c:0<=b)(d:¬a<0)(h2:b<a):ou a b=b:=by unfold ou;rw[if_pos c,if_neg d,if_pos h2]
theorem WB{a b:Int}(c:0<=b)(d:¬a<0)(h2:¬b<a):ou a b=a:=by unfold ou;rw[if_pos c,if_neg d,if_neg h2]
theorem WD{a b:Int}(c:¬0<=b):ou a b=a:=by unfold ou;rw[if_neg c]
def iZ(t:Zd)(c:Zj):Zd:=⟨t.id,t.k,t.q,t.ξ,yc t.low (mu t.q c).1,ou t.high (mu t.q c).2,t.done || qL t.k t.q c⟩
theorem RE(c:Zj)(t:Zd):(Ed c t).Α ⟨t.id,t.k,t.q,t.ξ,yc t.low (mu t.q c).1,ou t.high (mu t.q c).2,t.done⟩:=by
 refine⟨_,ZuK t.q c,?_⟩;by_cases a:0<=(mu t.q c).2
 .by_cases d:t.high<0
  .rw[WA a d];exact Cq.wp.yes a (Cq.wp.yes d rfl)
  by_cases h2:(mu t.q c).2<t.high
  .rw[Cc a d h2];exact Cq.wp.yes a (Cq.wp.no d (Cq.wp.yes h2 rfl))
  rw[WB a d h2];exact Cq.wp.yes a (Cq.wp.no d (Cq.wp.no h2 rfl))
 rw[WD a];exact Cq.wp.no a rfl
theorem Zw1{t:Zd}(d:fa t.q){c:Zj}(a:Ë c):(KU t c).Α (iZ t c):=by
 refine⟨_,ZsF d a,?_⟩;unfold iZ;cases qL t.k t.q c with
 |true=>rw[abA];exact Cq.wp.yes rfl (RE c _)
 |false=>rw[abP];exact Cq.wp.nr rfl (RE c _)
theorem Rj(b:Int×Int)(t:Zd):(Er b t).Α ⟨t.id,t.k,t.q,t.ξ,yc t.low b.1,ou t.high b.2,t.done⟩:=by
 by_cases a:0<=b.2
 .by_cases c:t.high<0
  .rw[WA a c];exact Cq.wp.yes a (Cq.wp.yes c rfl)
  by_cases h2:b.2<t.high
  .rw[Cc a c h2];exact Cq.wp.yes a (Cq.wp.no c (Cq.wp.yes h2 rfl))
  rw[WB a c h2];exact Cq.wp.yes a (Cq.wp.no c (Cq.wp.no h2 rfl))
 rw[WD a];exact Cq.wp.no a rfl
theorem Zrd{t:Zd}(e:fa t.q){c:Zj}(d:Ë c):(Kc t c).Α (iZ t c):=by
 refine⟨_,Ztm t.q c,?_⟩;unfold iZ;by_cases a:t.done=true
 .refine Cq.wp.yes a ?_;rw[a,Ŭ];exact Rj _ _
 refine Cq.wp.no a ⟨_,Zq8 e d,?_⟩;rw[show t.done=false by simpa using a,Ľ];exact Rj _ _
theorem Bd(l:Ŀ Zj)(t:Zd):(l.foldl iZ t).id=t.id/\(l.foldl iZ t).k=t.k/\(l.foldl iZ t).q=t.q/\(l.foldl iZ t).ξ=t.ξ:=by
 induction l generalizing t with
 |nil=>exact⟨rfl,rfl,rfl,rfl⟩
 |cons c l e=>
  obtain⟨a,h2,h3,d⟩:=e (iZ t c);exact⟨a,h2,h3,d⟩
def kj(id Ζ:Int)(t:Zd):Zd:=if t.id=id then⟨t.id,t.k,t.q,if t.ξ<Ζ+1 then Ζ+1 else t.ξ,t.low,t.high,t.done⟩else t
def stepT(k:Zb)(id:Int)(l:Ŀ Zj)(Ζ:Int)(t:Zd):Zd:=kj id Ζ (if ý t.k=ý k then l.foldl iZ t else t)
def hV(B:Ze)(id:Int)(l:Ŀ Zj)(Ζ:Int):Ze×Int:=
 if(Ò B.t id).2=false then(⟨[],0⟩,380)
 else if Ζ<0\/12<Ζ then(⟨[],0⟩,1)
 else if l.all (ã (Ò B.t id).1.k)=true then(⟨B.t.map (stepT (Ò B.t id).1.k id l Ζ),B.next⟩,0)
 else(⟨[],0⟩,1)
end Go.EL

namespace Go.EL
open Go.IntKind (i8 i16 i32 i64 u8 u16 u32 u64)
open Go Go.RowKit
theorem ZsG{l:Ŀ Zd}(a:l.length<=1000):(Z4 l).Α l:=
 ⟨λe=>by subst e;rfl,by rw[ļ];simp only[small];omega,ļ l⟩
theorem Fm{l:Ŀ Zd}{id:Int}(h:(Ò l id).2=true):(Ò l id).1∈l/\(Ò l id).1.id=id:=by
 unfold Ò at h⊢;cases a:l.find? λt=>decide (t.id=id)with
 |none=>rw[a]at h;cases h
 |some t=>exact⟨ej a,by simpa using aaj a⟩
theorem UC{α:Type}{E:α}(l:Ŀ Zj)(q:l.length<=1000)(f:Zj->Bool)(X:Ze){step:Int×Ze->Cq ((Int×Ze)⊕(α⊕Ze))}
  (h:∀k (g:k<l.length),(step ((k:Int),X)).wp λo=>o=if f l[k]=true then .inl (i64.wrap ((k:Int)+1),X)else .inr (.inl E))
  (a:(step ((l.length:Int),X)).wp λo=>o=.inr (.inr X)):(Cq.loop step (0,X)).wp λo=>o=if l.all f=true then .inr X else .inl E:=by
 refine Cq.Zn l.length (λk s=>s=((k:Int),X)/\∀i (hi:i<l.length),i<k->f l[i]=true) (λk s g m=>?_) (λs m=>?_) ⟨rfl,λi _ hi=>absurd hi (ı _)⟩
 .obtain⟨rfl,d⟩:=m
  refine(step _).mono (λo j=>?_) (h k g)
  subst j
  by_cases c:f l[k]=true
  .rw[ą c]
   refine⟨by rw[ψ ŉ],λi hi n=>?_⟩
   by_cases e:i=k
   .subst e;exact c
   exact d i hi ŉ
  rw[ā c]
  show _=_
  rw[ā λe=>c (Ć.1 e _ (ă g))]
 obtain⟨rfl,d⟩:=m
 refine(step _).mono (λo j=>?_) a
 subst j
 show _=_
 rw[ą (Ć.2 λx p=>by obtain⟨i,hi,rfl⟩:=ž p;exact d i hi hi)]
theorem Zyc{l:Ŀ Zj}(g:l.length<=1000)(e:∀c∈l,Ë c){t:Zd}(f:fa t.q):(PU l (0,t)).Α (l.foldl iZ t):=by
 refine Cq.Zn l.length (λk s=>s=((k:Int),(l.take k).foldl iZ t)) (λk s a d=>?_) (λs d=>?_) rfl
 .subst d;refine Cq.wp.yes ŉ ⟨_,Ξ a,_,Zw1 (by rw[(Bd _ t).2.2.1];exact f) (e _ (ă a)),?_⟩;show _=_;rw[ψ ŉ,č a,abf];rfl
 subst d;refine Cq.wp.no ŉ ?_;rw[Ĥ];exact rfl
theorem Zv7{l:Ŀ Zj}(j:l.length<=1000)(g:∀c∈l,Ë c){t own:Zd}(i:fa t.q)(a:jS t.k)(h:jS own.k)(b:Bool):(Qp l (own,b) (0,t)).Α (if ý t.k=ý own.k then l.foldl iZ t else t):=by
 have d:=A0 a h;by_cases e:ý t.k=ý own.k
 .rw[ą e];rw[Ă e]at d;refine Cq.Zn l.length (λk s=>s=((k:Int),(l.take k).foldl iZ t)) (λk s a ov=>?_) (λs ov=>?_) rfl
  .subst ov;refine Cq.wp.yes ŉ ⟨true,by rw[(Bd _ t).2.1];exact d,Cq.wp.yes rfl ⟨_,Ξ a,_,Zrd (by rw[(Bd _ t).2.2.1];exact i) (g _ (ă a)),?_⟩⟩;show _=_;rw[ψ ŉ,č a,abf];rfl
  subst ov;refine Cq.wp.no ŉ ?_;rw[Ĥ];exact rfl
 rw[ā e];rw[ċ e]at d;refine Cq.Zt ?_;by_cases f:(0:Int)<(l.length:Int)
 .exact Cq.wp.yes f ⟨false,d,Cq.wp.nr rfl rfl⟩
 exact Cq.wp.no f rfl
theorem TS{id Ζ:Int}(f:0<=Ζ/\Ζ<=12){T:Ŀ Zd}{k:Nat}(a:k<T.length)(d:T.length<=1000)(n:Int)(t:Zd):(yM id Ζ T (k:Int) n t).wp λo=>o=.inl (T.set k (kj id Ζ t),((k+1:Nat):Int),n):=by
 unfold kj;have c:i64.wrap (Ζ+1)=Ζ+1:=wrap64 ŉ;by_cases e:t.id=id
 .rw[ą e];refine Cq.wp.yes e ⟨_,Ξ a,?_⟩;show _=_;rw[ψ ŉ,c,ē]
 rw[ā e];refine Cq.wp.no e ⟨_,Ξ a,?_⟩;show _=_;rw[ψ ŉ,ē]
theorem Zv5{id Ζ:Int}(f:0<=Ζ/\Ζ<=12){T:Ŀ Zd}{k:Nat}(d:k<1000)(c:T.length<=1000)(n:Int)(t:Zd):(JZ id Ζ (k:Int) T n t).wp λo=>o=.inl (((k+1:Nat):Int),T++[kj id Ζ t],n):=by
 unfold kj;have a:i64.wrap (Ζ+1)=Ζ+1:=wrap64 ŉ;have k3:∀u,(EE (k:Int) T n u).wp λo=>o=.inl (((k+1:Nat):Int),T++[u],n):=λu=>by refine⟨by rw[Ā];simp only[small,ė];omega,?_⟩;show _=_;rw[ψ ŉ]
 by_cases e:t.id=id
 .rw[ą e];refine Cq.wp.yes e ?_;rw[a];exact k3 _
 rw[ā e];exact Cq.wp.no e (k3 _)
theorem ZzX{f:Zd->Zd}{T:Ŀ Zd}{k:Nat}(a:k<T.length):((T.take k).map f++T.drop k).length=T.length/\((T.take k).map f++T.drop k)[k]?=some T[k]/\((T.take k).map f++T.drop k).set k (f T[k])=(T.take (k+1)).map f++T.drop (k+1):=by
 have c:((T.take k).map f).length=k:=by rw[ć,Č];omega
 refine⟨by rw[Ā,c,ľ];omega,?_,?_⟩
 .rw[ģ ŉ,c,aaT,ŧ];exact Ą a
 rw[List.set_append,ā ŉ,c,aaT,ĭ a,aa3,č a,Ī,Đ];rfl
section
variable {B:Ze}{id:Int}{l:Ŀ Zj}{Ζ:Int}
theorem uO(h:(Ò B.t id).2=false):hV B id l Ζ=(⟨[],0⟩,380):=by unfold hV;rw[if_pos h]
theorem qZ(h:(Ò B.t id).2=true)(a:Ζ<0\/12<Ζ):hV B id l Ζ=(⟨[],0⟩,1):=by unfold hV;rw[if_neg (by rw[h];decide),if_pos a]
theorem ye(h:(Ò B.t id).2=true)(a:¬(Ζ<0\/12<Ζ))(h2:l.all (ã (Ò B.t id).1.k)=false):hV B id l Ζ=(⟨[],0⟩,1):=by unfold hV;rw[if_neg (by rw[h];decide),if_neg a,if_neg (by rw[h2];decide)]
theorem sJ(h:(Ò B.t id).2=true)(a:¬(Ζ<0\/12<Ζ))(h2:l.all (ã (Ò B.t id).1.k)=true):hV B id l Ζ=(⟨B.t.map (stepT (Ò B.t id).1.k id l Ζ),B.next⟩,0):=by unfold hV;rw[if_neg (by rw[h];decide),if_neg a,if_pos h2]
end
theorem AT{B:Ze}(h:ê B)(F:B.t.length<=1000)(id:Int){l:Ŀ Zj}(y:l.length<=1000)(x:∀c∈l,Ë c)(Ζ:Int):(xh B id l Ζ).Α (hV B id l Ζ):=by
 refine⟨_,(y3 F id).1,?_⟩;cases d:(Ò B.t id).2 with
 |false=>rw[uO d];exact Cq.wp.yes (by rw[d];rfl) rfl
 |true=>
  refine Cq.wp.no (by rw[d];decide) ?_;obtain⟨H,G⟩:=Fm d;have m:=(h.can _ H).ck.1.ok;by_cases q:Ζ<0
  .rw[qZ d (Or.inl q)];exact Cq.wp.yes q rfl
  by_cases h2:12<Ζ
  .rw[qZ d (Or.inr h2)];exact Cq.wp.no q (Cq.wp.yes h2 rfl)
  have j:¬(Ζ<0\/12<Ζ):=ŉ;have J:=ye (l:=l) d j;have K:=sJ (l:=l) d j;generalize A:Ò B.t id=own at *;refine Cq.wp.no q (Cq.wp.no h2 ?_);show(Cq.next _ _).wp _;have key:=UC (E:=((⟨[],0⟩:Ze),(1:Int))) l y (ã own.1.k) ⟨[],0⟩ (step:=λD=>match D with|(a,i)=>if a<(l.length:Int)then(Cq.Κ l a λL=>Cq.bind (EJ own.1.k L) λu=>if(!u)=true then(Cq.ret (.inr (.inl ((Ze.mk [] 0),1))))else(Cq.ret (.inl (i64.wrap (a+1),i))))else(Cq.ret (.inr (.inr i)))) (λk g=>by
   refine Cq.wp.yes ŉ ⟨_,Ξ g,_,Zn1 m (x _ (ă g)),?_⟩;cases ã own.1.k l[k]with
   |false=>exact Cq.wp.yes rfl rfl
   |true=>exact Cq.wp.nr rfl rfl) (Cq.wp.no ŉ rfl)
  refine Cq.eY key ?_;cases hr:l.all (ã own.1.k)with
  |false=>rw[J hr];exact rfl
  |true=>
   rw[K hr];refine⟨_,zg m,_,ZsG ŉ,?_⟩;show(Cq.next _ _).wp _;refine Cq.Zn B.t.length (λk s=>s=((B.t.take k).map (stepT own.1.k id l Ζ)++B.t.drop k,(k:Int),B.next)) (λk s g t=>?_) (λs t=>?_) (by show _=_;simp)
   .subst t;obtain⟨C,I,n⟩:=ZzX (f:=stepT own.1.k id l Ζ) g;have v:=h.can _ (ă g);refine Cq.wp.yes ŉ ⟨B.t[k],⟨ŉ,by rw[ē];exact I⟩,_,zg v.ck.1.ok,?_⟩;have e:stepT own.1.k id l Ζ B.t[k]=kj id Ζ (if ý B.t[k].k=ý own.1.k then l.foldl iZ B.t[k]else B.t[k]):=rfl;rw[e]at n;by_cases p:ý B.t[k].k=ý own.1.k
    .rw[ą p]at n;refine Cq.wp.yes p (Cq.eY (Zyc y x v.cq) ?_);refine Cq.mono (yM _ _ _ _ _ _) (λo r=>?_) (TS ŉ (by rw[C];exact g) ŉ B.next _);subst r;show _=_;rw[n]
    rw[ā p]at n;refine Cq.wp.no p ?_;refine Cq.mono (yM _ _ _ _ _ _) (λo r=>?_) (TS ŉ (by rw[C];exact g) ŉ B.next _);subst r;show _=_;rw[n]
   subst t;refine Cq.wp.no ŉ ?_;rw[Ĥ,aaf,ę];exact rfl
theorem Zu1{B:Ze}(h:ê B)(v:B.t.length<=1000)(id:Int){l:Ŀ Zj}(r:l.length<=1000)(q:∀c∈l,Ë c)(Ζ:Int):(KY B id l Ζ).Α (hV B id l Ζ):=by
 refine⟨_,(y3 v id).2,?_⟩;cases d:(Ò B.t id).2 with
 |false=>rw[uO d];exact Cq.wp.yes (by rw[d];rfl) rfl
 |true=>
  refine Cq.wp.no (by rw[d];decide) ?_;obtain⟨y,x⟩:=Fm d;have i:=(h.can _ y).ck.1.ok;by_cases j:Ζ<0
  .rw[qZ d (Or.inl j)];exact Cq.wp.yes j rfl
  by_cases h2:12<Ζ
  .rw[qZ d (Or.inr h2)];exact Cq.wp.no j (Cq.wp.yes h2 rfl)
  have g:¬(Ζ<0\/12<Ζ):=ŉ;have C:=ye (l:=l) d g;have D:=sJ (l:=l) d g;generalize t:Ò B.t id=own at *;refine Cq.wp.no j (Cq.wp.no h2 ?_);show(Cq.next _ _).wp _;have key:=UC (E:=((⟨[],0⟩:Ze),(1:Int))) l r (ã own.1.k) ⟨[],0⟩ (step:=λu=>match u with|(a,f)=>if a<(l.length:Int)then(Cq.Κ l a λF=>Cq.bind (FF own.1.k F) λn=>if(!n)=true then(Cq.ret (.inr (.inl ((Ze.mk [] 0),1))))else(Cq.ret (.inl (i64.wrap (a+1),f))))else(Cq.ret (.inr (.inr f)))) (λk e=>by
   refine Cq.wp.yes ŉ ⟨_,Ξ e,_,Zu3 i (q _ (ă e)),?_⟩;cases ã own.1.k l[k]with
   |false=>exact Cq.wp.yes rfl rfl
   |true=>exact Cq.wp.nr rfl rfl) (Cq.wp.no ŉ rfl)
  refine Cq.eY key ?_;cases hr:l.all (ã own.1.k)with
  |false=>rw[C hr];exact rfl
  |true=>
   rw[D hr];show(Cq.next _ _).wp _;refine Cq.Zn B.t.length (λk s=>s=((k:Int),(B.t.take k).map (stepT own.1.k id l Ζ),B.next)) (λk s e m=>?_) (λs m=>?_) (by show _=_;simp)
   .subst m;have p:=h.can _ (ă e);refine Cq.wp.yes ŉ ⟨_,Ξ e,Cq.eY (Zv7 (own:=own.1) r q p.cq p.ck.1.ok.tx i.tx own.2) ?_⟩;refine Cq.mono (JZ _ _ _ _ _ _) (λo A=>?_) (Zv5 ŉ ŉ (by rw[ć,Č];omega) B.next _);subst A;show _=_;rw[č e,Ī];rfl
   subst m;refine Cq.wp.no ŉ ?_;rw[Ĥ];exact rfl
end Go.EL

namespace Go.EL
open Go.IntKind (i8 i16 i32 i64 u8 u16 u32 u64)
open Go Go.RowKit
theorem ZvY{l:Ŀ Zu}(h:∀y∈l,jg y):∃m:Ŀ Ú,(LB l 2 2 3 6).Α m/\m.length<=6/\∀p∈m,ω p:=by
 refine⟨(l.take 6).map λy=>iF y 2 2 3,?_,by rw[ć,Č];omega,λp hp=>?_⟩
 .have a:(QN ((l.take (min l.length 6)).map λy=>iF y 2 2 3)).Α ((l.take 6).map λy=>iF y 2 2 3):=by
   have e:l.take (min l.length 6)=l.take 6:=by
    by_cases f:l.length<=6
    .rw[ż f,ě (ĉ _),ě f]
    rw[Nat.min_eq_right ŉ]
   rw[e];exact rfl
  refine Cq.Zn (min l.length 6) (λk s=>s=((l.take k).map (λy=>iF y 2 2 3),(k:Int))) (λk s j g=>?_) (λs g=>?_) rfl
  .subst g;have c:k<l.length:=ŉ;refine Cq.wp.yes ŉ (Cq.wp.yes ŉ ⟨_,Ξ c,_,Ly (h _ (ă c)) (n:=2) ĳ ĳ ĳ (k:=3) ĳ,?_,?_⟩)
   .simp only[Ā,ć,Č,ė,small];omega
   show _=_;rw[ψ ŉ,č c,Ī];rfl
  subst g;by_cases f:l.length<=6
  .exact Cq.wp.no ŉ a
  exact Cq.wp.yes ŉ (Cq.wp.no ŉ a)
 obtain⟨y,i,rfl⟩:=Ğ.1 hp;exact(LQ (h y (Ŝ i)) (n:=2) ĳ (d:=2) ĳ ĳ (k:=3) ĳ).1
def ir(l:Ŀ Ú)(k:Nat):Ú:=if h:0<l.length then l[k % l.length]'(x8 _ h)else[]
theorem Tr{l:Ŀ Ú}(h:∀p∈l,ω p)(k:Nat):ω (ir l k):=by
 unfold ir;split
 .exact h _ (ă _)
 exact ω.of ĳ
theorem Un(a b:Nat):Int.tmod (a:Int) (b:Int)=((a % b:Nat):Int):=by rw[ŕ ŉ];rfl
theorem T6{l:Ŀ Ú}(p:l.length<=6)(k n:Nat)(m:k<=2)(q:n<=3):(xx l (k:Int) (n:Int)).Α ((List.range n).map λi=>ir l (k+i)):=by
 show(Cq.next _ _).wp _;refine Cq.Zn n (λj s=>s=((List.range j).map (λi=>ir l (k+i)),(j:Int))) (λj s h d=>?_) (λs d=>?_) rfl
 .subst d;have a:∀x:Ú,((List.range j).map (λi=>ir l (k+i))++[x]).length<=small:=λx=>by simp only[Ā,ć,ź,ė,small];omega
  have next:∀x:Ú,x=ir l (k+j)->((List.range j).map (λi=>ir l (k+i))++[x],i64.wrap ((j:Int)+1))=((List.range (j+1)).map (λi=>ir l (k+i)),((j+1:Nat):Int)):=λx f=>by rw[ψ ŉ,aak,Ī,f];rfl
  refine Cq.wp.yes ŉ ?_;by_cases g:l.length=0
  .refine Cq.wp.yes ŉ ⟨a _,next _ ?_⟩;unfold ir;rw[dif_neg ŉ]
  have c:(k+j) % l.length<l.length:=x8 _ ŉ;have e:Int.tmod (i64.wrap ((k:Int)+(j:Int))) (l.length:Int)=(((k+j) % l.length:Nat):Int):=by rw[wrap64 ŉ,<-Un];congr 1
  refine Cq.wp.no ŉ ⟨ŉ,_,by rw[e];exact Ξ c,a _,next _ ?_⟩;unfold ir;rw[Ŷ ŉ]
 subst d;exact Cq.wp.no ŉ rfl
theorem Zyr{l:Ŀ Ú}(h:∀p∈l,ω p)(k n:Nat)(a:n<=3):rQ ((List.range n).map λi=>ir l (k+i)):=
 ⟨by rw[ć,ź];exact a,λp hp=>by obtain⟨i,_,rfl⟩:=Ğ.1 hp;exact Tr h _⟩
def eU(v:Ŀ Int)(k:Nat):Int:=(v[k % v.length]?).getD 0
theorem za{v:Ŀ Int}(h:∀x∈v,gN x)(k:Nat):gN (eU v k):=by
 unfold eU;cases e:v[k % v.length]? with
 |none=>show gN 0;decide
 |some x=>exact h x (ń e)
theorem vB{v:Ŀ Int}(h:∀x∈v,gN x)(k:Nat):(tY v (k:Int)).Α (eU v k):=by
 by_cases c:v.length=0
 .refine Cq.wp.yes ŉ ?_;show _=_;unfold eU;rw[ł ŉ];rfl
 have a:k % v.length<v.length:=x8 _ ŉ;refine Cq.wp.no ŉ ⟨ŉ,_,by rw[Un];exact Ξ a,?_⟩;show _=_;have:=h _ (ă a);unfold eU;rw[Ą a,wrap64 ŉ];rfl
def n7(y:Int):Int:=i64.wrap (BitVec.ofInt i64.bits y &&& BitVec.ofInt i64.bits 7).toNat
def n3(y:Int):Int:=i64.wrap (BitVec.ofInt i64.bits (n7 y) &&& BitVec.ofInt i64.bits 3).toNat
def n15(y:Int):Int:=i64.wrap (BitVec.ofInt i64.bits y &&& BitVec.ofInt i64.bits 15).toNat
def wy(y:Int):Int:=i64.wrap ((Int.tmod (i64.wrap (BitVec.ofInt i64.bits y &&& BitVec.ofInt i64.bits 127).toNat) 3)-1)
structure rT (y:Int):Prop where
 h7:0<=n7 y/\n7 y<=7
 h3:0<=n3 y/\n3 y<=3
 oO:0<=n15 y/\n15 y<=15
 sg:-1<=wy y/\wy y<=1
 w8:i8.wrap (n7 y)=n7 y/\i8.wrap y=y
 dm:i64.wrap (n3 y-1)=n3 y-1
 pt:0<=i64.wrap (Int.tdiv (n7 y) 2)/\i64.wrap (Int.tdiv (n7 y) 2)<=i64.wrap (n7 y-i64.wrap (Int.tdiv (n7 y) 3))/\i64.wrap (n7 y-i64.wrap (Int.tdiv (n7 y) 3))<=n7 y
def ta(y:Int):Bool:=decide (0<=n7 y/\n7 y<=7)&&decide (0<=n3 y/\n3 y<=3)&&decide (0<=n15 y/\n15 y<=15)&&decide (-1<=wy y/\wy y<=1)&&decide (i8.wrap (n7 y)=n7 y/\i8.wrap y=y)&&decide (i64.wrap (n3 y-1)=n3 y-1)&&decide (0<=i64.wrap (Int.tdiv (n7 y) 2)/\i64.wrap (Int.tdiv (n7 y) 2)<=i64.wrap (n7 y-i64.wrap (Int.tdiv (n7 y) 3))/\i64.wrap (n7 y-i64.wrap (Int.tdiv (n7 y) 3))<=n7 y)
theorem Zxt:á (-128) 127 ta=true:=by decide +kernel
theorem Ba{y:Int}(h:gN y):rT y:=by have:=Zq Zxt h.1 h.2;unfold ta at this;simp only[Ĉ,Ę]at this;obtain⟨⟨⟨⟨⟨⟨a,b⟩,c⟩,d⟩,e⟩,f⟩,g⟩:=this;exact⟨a,b,c,d,e,f,g⟩
def mw(v:Ŀ Int)(k:Nat):Ŀ Zl:=ni (eU v k) (eU v (k+1)) (n7 (eU v k))
theorem LL{v:Ŀ Int}(h:∀x∈v,gN x)(k:Nat)(p:k<=3):(Mk v (k:Int)).Α (mw v k)/\nP (mw v k):=by
 have p0:=za h k;have p1:=za h (k+1);have a:=Ba p0;have j:=Ba p1;refine⟨?_,_,_,_,p0,p1,a.h7,rfl⟩;have l:nN 0=(0,1):=by decide +kernel
 have m:oP 0 0=(0,1):=by decide +kernel
 have w1:(ZX 0).Α (Ν (nN 0)):=by rw[l];exact(xL (n:=0) ĳ).1
 have w2:(ZX 0).Α (Ν (oP 0 0)):=by rw[m];exact(xL (n:=0) ĳ).1
 have first:(RL (0,List.replicate 8 (Zl.mk (Zf.mk (Zg.mk false []) (Zg.mk false [])) (Zf.mk (Zg.mk false []) (Zg.mk false []))))).Α (List.replicate 8 (mh 0 0)):=by
  iterate 8
   refine Cq.Zt (Cq.wp.yes ĳ ⟨_,w1,_,w2,_,⟨ĳ,rfl⟩,?_⟩)
   show(Cq.loop _ _).wp _
  exact Cq.Zt (Cq.wp.no ĳ rfl)
 refine Cq.eY first ?_
 show(Cq.next _ _).wp _;have d:=ZwR a.h7;have e:i64.wrap ((k:Int)+0)=(k:Int):=by rw[wrap64 ŉ];omega
 have f:∀i:Nat,i<=1->i64.wrap ((k:Int)+(i:Int))=((k+i:Nat):Int):=λi hi=>by rw[wrap64 ŉ];rfl
 have c:∀y,rT y->i8.wrap (i64.wrap (BitVec.ofInt i64.bits y &&& BitVec.ofInt i64.bits 7).toNat)=n7 y:=λy s=>s.w8.1;have g:(RK v (k:Int) (0,List.replicate 8 (mh 0 0))).Α (mw v k):=by refine Cq.Zt (Cq.wp.yes ĳ ⟨_,by rw[e];exact vB h k,_,by rw[a.w8.2];exact Va p0,_,vB h k,_,by rw[c _ a];exact d,_,U6 p0 a.h7,_,⟨ĳ,rfl⟩,?_⟩);show(Cq.loop _ _).wp _;refine Cq.Zt (Cq.wp.yes ĳ ⟨_,by have:=f 1 ĳ;rw[show((1:Nat):Int)=i64.wrap (0+1)from rfl]at this;rw[this];exact vB h (k+1),_,by rw[j.w8.2];exact Va p1,_,vB h k,_,by rw[c _ a];exact d,_,U6 p1 a.h7,_,⟨ĳ,rfl⟩,?_⟩);show(Cq.loop _ _).wp _;exact Cq.Zt (Cq.wp.no ĳ rfl)
 exact g
end Go.EL

namespace Go.EL
open Go.IntKind (i8 i16 i32 i64 u8 u16 u32 u64)
open Go Go.RowKit
structure jN (x:ZM):Prop where
 kind:0<=x.kind/\x.kind<=255
 l:∀y∈x.l,jg y
 v:∀z∈x.v,gN z
theorem RS{v:Ŀ Int}(h:∀z∈v,gN z){N:Nat}(a:N<=3):kv ((List.range N).map (mw v)):=
 ⟨by rw[ć,ź];exact a,λb c=>by
  obtain⟨i,hi,rfl⟩:=Ğ.1 c;exact(LL h i (by have:=ĺ.1 hi;omega)).2⟩
theorem ZvS{v:Ŀ Int}(h:∀z∈v,gN z){N:Nat}(a:N<=3):lA ((List.range N).map λi=>wy (eU v i)):=
 ⟨by rw[ć,ź];exact a,λb c=>by
  obtain⟨i,_,rfl⟩:=Ğ.1 c;exact(Ba (za h i)).sg⟩
theorem Zw4{x:ZM}(c:jN x)(p:Ú){y:Int}{N:Nat}(f:n3 y=(N:Int))(d:N<=3):(Je x p y (0,7,[],0,0,0,[],[],[],[])).Α (7,[],0,0,0,[],[],[],(List.range N).map (mw x.v)):=by
 refine Cq.Zn N (λk s=>s=((k:Int),7,[],0,0,0,[],[],[],(List.range k).map (mw x.v))) (λk s e a=>?_) (λs a=>?_) rfl
 .subst a;refine Cq.wp.yes (show(k:Int)<n3 y by omega) ⟨_,(LL c.v k ŉ).1,?_,Cq.wp.no ĳ ?_⟩
  .simp only[Ā,ć,ź,ė,small];omega
  show _=_;rw[ψ ŉ,aak,Ī];rfl
 subst a;exact Cq.wp.no (show ¬(N:Int)<n3 y by omega) rfl
theorem Zw5{x:ZM}(c:jN x)(p:Ú){y:Int}{N:Nat}(f:n3 y=(N:Int))(d:N<=3):(Je x p y (0,8,[],0,0,0,[],[],[],[])).Α (8,if N=0 then[]else p,0,0,0,[],[],(List.range N).map (λi=>wy (eU x.v i)),(List.range N).map (mw x.v)):=by
 refine Cq.Zn N (λk s=>s=((k:Int),8,if k=0 then[]else p,0,0,0,[],[],(List.range k).map (λi=>wy (eU x.v i)),(List.range k).map (mw x.v))) (λk s e a=>?_) (λs a=>?_) rfl
 .subst a;refine Cq.wp.yes (show(k:Int)<n3 y by omega) ⟨_,(LL c.v k ŉ).1,?_,Cq.wp.yes rfl ⟨_,vB c.v k,?_,?_⟩⟩
  .simp only[Ā,ć,ź,ė,small];omega
  .simp only[Ā,ć,ź,ė,small];omega
  show _=_;rw[ψ ŉ,aak,Ī,Ī,ā (Nat.succ_ne_zero k)];rfl
 subst a;exact Cq.wp.no (show ¬(N:Int)<n3 y by omega) rfl
theorem Zpg{x:ZM}(d:jN x):∃c,(El x).Α c/\Ë c:=by
 obtain⟨m,B,t,v⟩:=ZvY d.l;have s:=za d.v 1;have f:=Ba s;have k:(tY x.v 1).Α (eU x.v 1):=vB d.v 1;generalize eU x.v 1=y at s f k;have j:(xx m 2 1).Α [ir m 2]:=T6 t 2 1 ĳ ĳ;have hp:=Tr v 2;generalize ir m 2=p at j hp;obtain⟨N,n⟩:∃N:Nat,n3 y=(N:Int):=⟨(n3 y).toNat,by have:=f.h3;omega⟩;have a:N<=3:=by have:=f.h3;omega
 have g:(xx m 1 (n3 y)).Α ((List.range N).map λi=>ir m (1+i)):=by rw[n];exact T6 t 1 N ĳ a
 have l:=Zyr v 1 N a;have E:1<=i64.wrap (1+(i64.wrap (Int.tmod x.kind 13)))/\i64.wrap (1+(i64.wrap (Int.tmod x.kind 13)))<=13:=by have:=d.kind;have e:Int.tmod x.kind 13=x.kind % 13:=ŕ this.1;rw[e,wrap64 (x:=x.kind % 13) ŉ,wrap64 ŉ];omega
 have start:∀c,(if(i64.wrap (1+(i64.wrap (Int.tmod x.kind 13))))=1 then(w7 x m p y (decide ((i64.wrap (1+(i64.wrap (Int.tmod x.kind 13))))=1)))else(if(i64.wrap (1+(i64.wrap (Int.tmod x.kind 13))))=2 then(w7 x m p y (decide ((i64.wrap (1+(i64.wrap (Int.tmod x.kind 13))))=2)))else(w7 x m p y (decide ((i64.wrap (1+(i64.wrap (Int.tmod x.kind 13))))=10))))).Α c->(El x).Α c:=
  λc h=>⟨m,B,_,j,p,⟨ĳ,rfl⟩,y,k,h⟩
 rcases (by omega:i64.wrap (1+(i64.wrap (Int.tmod x.kind 13)))=1\/i64.wrap (1+(i64.wrap (Int.tmod x.kind 13)))=2\/i64.wrap (1+(i64.wrap (Int.tmod x.kind 13)))=3\/i64.wrap (1+(i64.wrap (Int.tmod x.kind 13)))=4\/i64.wrap (1+(i64.wrap (Int.tmod x.kind 13)))=5\/i64.wrap (1+(i64.wrap (Int.tmod x.kind 13)))=6\/i64.wrap (1+(i64.wrap (Int.tmod x.kind 13)))=7\/i64.wrap (1+(i64.wrap (Int.tmod x.kind 13)))=8\/i64.wrap (1+(i64.wrap (Int.tmod x.kind 13)))=9\/i64.wrap (1+(i64.wrap (Int.tmod x.kind 13)))=10\/i64.wrap (1+(i64.wrap (Int.tmod x.kind 13)))=11\/i64.wrap (1+(i64.wrap (Int.tmod x.kind 13)))=12\/i64.wrap (1+(i64.wrap (Int.tmod x.kind 13)))=13)with e|e|e|e|e|e|e|e|e|e|e|e|e
 .exact⟨⟨1,p,0,0,0,[],[],[],[]⟩,start _ (Cq.wp.yes e (Cq.wp.yes (Ă e) (by show _=_;rw[e]))),.ia 1 p ĳ hp⟩
 .exact⟨⟨2,p,0,0,0,[],[],[],[]⟩,start _ (Cq.wp.no (by rw[e];decide) (Cq.wp.yes e (Cq.wp.yes (Ă e) (by show _=_;rw[e])))),.ia 2 p ĳ hp⟩
 .exact⟨⟨3,[],0,0,0,[],[],[],[]⟩,start _ (Cq.wp.no (by rw[e];decide) (Cq.wp.no (by rw[e];decide) (Cq.wp.no (by rw[e];decide) (Cq.wp.no (by rw[e];decide) (Cq.wp.no (by rw[e];decide) (Cq.wp.no (by rw[e];decide) (Cq.wp.no (by rw[e];decide) (Cq.wp.no (by rw[e];decide) (Cq.wp.no (by rw[e];decide) (Cq.wp.no (by rw[e];decide) (Cq.wp.no (by rw[e];decide) ((by show _=_;rw[e]))))))))))))),.nil 3 ĳ⟩
 .have h2:=za d.v 2;have C:(xw (u8.wrap (eU x.v 2))).Α (l4 (u8.wrap (eU x.v 2)).toNat):=by
   obtain⟨u,r⟩:∃u:Nat,u8.wrap (eU x.v 2)=(u:Int):=⟨((eU x.v 2) % 256).toNat,by show(eU x.v 2) % 256=_;omega⟩;have D:(u:Int)<=255:=by rw[<-r];show(eU x.v 2) % 256<=255;omega
   rw[r];exact TO ŉ
  exact⟨⟨4,[],0,0,0,_,_,[],[]⟩,start _ (Cq.wp.no (by rw[e];decide) (Cq.wp.no (by rw[e];decide) (Cq.wp.no (by rw[e];decide) (Cq.wp.yes e ⟨_,vB d.v 2,_,C,_,g,(by show _=_;rw[e])⟩)))),.G6 _ _ Uj l⟩
 .have A:=(Ba (za d.v 3)).oO;exact⟨⟨5,[],n15 (eU x.v 3),n3 y-1,0,[],[],[],[]⟩,start _ (Cq.wp.no (by rw[e];decide) (Cq.wp.no (by rw[e];decide) (Cq.wp.no (by rw[e];decide) (Cq.wp.no (by rw[e];decide) (Cq.wp.yes e ⟨_,vB d.v 3,by show Zj.mk _ _ _ (i64.wrap (n3 y-1)) _ _ _ _ _=_;rw[e,f.dm];rfl⟩))))),.BU _ _ A (by have:=f.h3;omega)⟩
 .exact⟨⟨6,[],n7 y,i64.wrap (n7 y-i64.wrap (Int.tdiv (n7 y) 3)),i64.wrap (Int.tdiv (n7 y) 2),[],[],[],[]⟩,start _ (Cq.wp.no (by rw[e];decide) (Cq.wp.no (by rw[e];decide) (Cq.wp.no (by rw[e];decide) (Cq.wp.no (by rw[e];decide) (Cq.wp.no (by rw[e];decide) (Cq.wp.yes e (by show _=_;rw[e];rfl))))))),.HR _ _ _ ⟨f.pt.1,f.pt.2.1,f.pt.2.2,f.h7.2⟩⟩
 .have h7:=Zw4 d p n a;rw[<-e]at h7;exact⟨⟨7,[],0,0,0,[],[],[],(List.range N).map (mw x.v)⟩,start _ (Cq.wp.no (by rw[e];decide) (Cq.wp.no (by rw[e];decide) (Cq.wp.no (by rw[e];decide) (Cq.wp.no (by rw[e];decide) (Cq.wp.no (by rw[e];decide) (Cq.wp.no (by rw[e];decide) (Cq.wp.yes e (Cq.wp.yes (Ă e) (Cq.eY h7 (Cq.wp.no (by rw[e];decide) (by show _=_;rw[e]))))))))))),.box _ (RS d.v a)⟩
 .have q:=Zw5 d p n a;rw[<-e]at q;exact⟨⟨8,p,0,0,0,[],[],(List.range N).map (λi=>wy (eU x.v i)),(List.range N).map (mw x.v)⟩,start _ (Cq.wp.no (by rw[e];decide) (Cq.wp.no (by rw[e];decide) (Cq.wp.no (by rw[e];decide) (Cq.wp.no (by rw[e];decide) (Cq.wp.no (by rw[e];decide) (Cq.wp.no (by rw[e];decide) (Cq.wp.no (by rw[e];decide) (Cq.wp.yes (Ă e) (Cq.eY q (Cq.wp.yes e (by show _=_;rw[e]))))))))))),.sig _ _ _ hp (ZvS d.v a) (by rw[ć,ć]) (RS d.v a)⟩
 .exact⟨⟨9,[],0,0,0,[],[],[],[]⟩,start _ (Cq.wp.no (by rw[e];decide) (Cq.wp.no (by rw[e];decide) (Cq.wp.no (by rw[e];decide) (Cq.wp.no (by rw[e];decide) (Cq.wp.no (by rw[e];decide) (Cq.wp.no (by rw[e];decide) (Cq.wp.no (by rw[e];decide) (Cq.wp.no (by rw[e];decide) (Cq.wp.no (by rw[e];decide) (Cq.wp.no (by rw[e];decide) (Cq.wp.no (by rw[e];decide) ((by show _=_;rw[e]))))))))))))),.nil 9 ĳ⟩
 .exact⟨⟨10,p,0,0,0,[],[],[],[]⟩,start _ (Cq.wp.no (by rw[e];decide) (Cq.wp.no (by rw[e];decide) (Cq.wp.yes (Ă e) (by show _=_;rw[e])))),.ia 10 p ĳ hp⟩
 .exact⟨⟨11,[],0,0,0,[],_,[],[]⟩,start _ (Cq.wp.no (by rw[e];decide) (Cq.wp.no (by rw[e];decide) (Cq.wp.no (by rw[e];decide) (Cq.wp.no (by rw[e];decide) (Cq.wp.no (by rw[e];decide) (Cq.wp.no (by rw[e];decide) (Cq.wp.no (by rw[e];decide) (Cq.wp.no (by rw[e];decide) (Cq.wp.yes e ⟨_,g,(by show _=_;rw[e])⟩))))))))),.u2 _ l⟩
 .exact⟨⟨12,[],n7 y,0,0,[],[],[],[]⟩,start _ (Cq.wp.no (by rw[e];decide) (Cq.wp.no (by rw[e];decide) (Cq.wp.no (by rw[e];decide) (Cq.wp.no (by rw[e];decide) (Cq.wp.no (by rw[e];decide) (Cq.wp.no (by rw[e];decide) (Cq.wp.no (by rw[e];decide) (Cq.wp.no (by rw[e];decide) (Cq.wp.no (by rw[e];decide) (Cq.wp.yes e (Cq.wp.yes e (by show _=_;rw[e];rfl)))))))))))),.zJ 12 _ ĳ f.h7⟩
 exact⟨⟨13,[],n7 y,0,0,[],[],[],[]⟩,start _ (Cq.wp.no (by rw[e];decide) (Cq.wp.no (by rw[e];decide) (Cq.wp.no (by rw[e];decide) (Cq.wp.no (by rw[e];decide) (Cq.wp.no (by rw[e];decide) (Cq.wp.no (by rw[e];decide) (Cq.wp.no (by rw[e];decide) (Cq.wp.no (by rw[e];decide) (Cq.wp.no (by rw[e];decide) (Cq.wp.no (by rw[e];decide) (Cq.wp.yes e (by show _=_;rw[e];rfl)))))))))))),.zJ 13 _ ĳ f.h7⟩
theorem ZuL{x:Zr}(s:∀y∈x.l,jN y):∃l,(AO x).Α l/\l.length<=4/\∀c∈l,Ë c:=by
 have key:∀(m i:Nat),m+i=min x.l.length 4->∀l:Ŀ Zj,l.length=i->(∀c∈l,Ë c)->∃r,(Qb x (l,(i:Int))).Α r/\r.length<=4/\∀c∈r,Ë c:=by
  intro m;induction m with
  |zero=>
   intro i hi l p h2;refine⟨l,Cq.Zt ?_,ŉ,h2⟩;by_cases h:i<x.l.length
   .exact Cq.wp.yes ŉ (Cq.wp.no ŉ rfl)
   exact Cq.wp.no ŉ rfl
  |succ m t=>
   intro i hi l p h2;have e:i<x.l.length:=ŉ;obtain⟨c,k,n⟩:=Zpg (s _ (ă e));obtain⟨r,f,g,j⟩:=t (i+1) ŉ (l++[c]) (by rw[Ā];simp;omega) (λd a=>by
    rcases Ĩ.1 a with a|a
    .exact h2 d a
    rw[Ĕ.1 a];exact n)
   refine⟨r,Cq.Zt (Cq.wp.yes ŉ (Cq.wp.yes ŉ ⟨_,Ξ e,c,k,?_,?_⟩)),g,j⟩
   .simp only[Ā,ė,small];omega
   show(Cq.loop _ _).wp _;rw[ψ ŉ];exact f
 obtain⟨r,f,g,j⟩:=key (min x.l.length 4) 0 ŉ [] rfl (λc q=>absurd q ĝ);exact⟨r,Cq.eY f rfl,g,j⟩
end Go.EL

namespace Go.EL
open Go.IntKind (i8 i16 i32 i64 u8 u16 u32 u64)
open Go Go.RowKit
theorem ê.map{B:Ze}(h:ê B){f:Zd->Zd}(hi:∀t,(f t).id=t.id)(a:∀t,(f t).k=t.k)(c:∀t,(f t).q=t.q)(l:∀t∈B.t,(0<=(f t).ξ/\(f t).ξ<=13)/\0<=(f t).low/\-1<=(f t).high):ê ⟨B.t.map f,B.next⟩ where
 can t g:=by obtain⟨u,k,rfl⟩:=Ğ.1 g;rw[a,c];exact h.can u k
 ids i kE:=by
  have h2:i<B.t.length:=by simpa using kE
  show(B.t.map f)[i].id=_;rw[ũ,hi];exact h.ids i h2
 next:=by show B.next=((B.t.map f).length:Int)+1;rw[ć];exact h.next
 Ý:=by rw[Ÿ];refine h.Ý.imp λ{s t} e=>?_;show hM (f s).k (f s).q≠hM (f t).k (f t).q;rw[a,c,a,c];exact e
 lV i kE x d:=by
  have h2:i<B.t.length:=by simpa using kE
  have d:x∈ù ((B.t.map f)[i]'(by simpa using h2)).q.kind:=d;rw[ũ,c]at d;obtain⟨j,j2,j3,j4⟩:=h.lV i h2 x d;refine⟨j,by show j<(B.t.map f).length;rw[ć];exact j2,j3,?_⟩;show hM ((B.t.map f)[j]'(by simpa using j2)).k ((B.t.map f)[j]'(by simpa using j2)).q=hM ((B.t.map f)[i]'(by simpa using h2)).k x;rw[ũ,ũ,a,c,a];exact j4
 num t g:=by obtain⟨u,k,rfl⟩:=Ğ.1 g;exact l u k
theorem ZzV(l:Ŀ Zj){t:Zd}(h:0<=t.low/\-1<=t.high):0<=(l.foldl iZ t).low/\-1<=(l.foldl iZ t).high:=by
 induction l generalizing t with
 |nil=>exact h
 |cons c l a=>
  refine a ⟨?_,?_⟩
  .show 0<=yc _ _;unfold yc;split<;>omega
  show -1<=ou _ _;unfold ou;repeat' split
  all_goals omega
theorem Lm(k:Zb)(id:Int)(l:Ŀ Zj)(Ζ:Int)(t:Zd):(stepT k id l Ζ t).id=t.id/\(stepT k id l Ζ t).k=t.k/\(stepT k id l Ζ t).q=t.q:=by
 obtain⟨a,h2,h3,_⟩:=Bd l t;unfold stepT kj;by_cases e:ý t.k=ý k
 .rw[ą e];split
  .exact⟨a,h2,h3⟩
  exact⟨a,h2,h3⟩
 rw[ā e];split<;>exact⟨rfl,rfl,rfl⟩
theorem ZyP{k:Zb}{id:Int}{l:Ŀ Zj}{Ζ:Int}(c:0<=Ζ/\Ζ<=12){t:Zd}(h:(0<=t.ξ/\t.ξ<=13)/\0<=t.low/\-1<=t.high):(0<=(stepT k id l Ζ t).ξ/\(stepT k id l Ζ t).ξ<=13)/\0<=(stepT k id l Ζ t).low/\-1<=(stepT k id l Ζ t).high:=by
 have key:∀u:Zd,(0<=u.ξ/\u.ξ<=13)/\0<=u.low/\-1<=u.high->(0<=(kj id Ζ u).ξ/\(kj id Ζ u).ξ<=13)/\0<=(kj id Ζ u).low/\-1<=(kj id Ζ u).high:=λu a=>by
  unfold kj;split
  .refine⟨?_,a.2⟩;show 0<=(if u.ξ<Ζ+1 then Ζ+1 else u.ξ)/\(if u.ξ<Ζ+1 then Ζ+1 else u.ξ)<=13;split<;>omega
  exact a
 unfold stepT;refine key _ ?_;split
 .rw[(Bd l t).2.2.2];exact⟨h.1,ZzV l h.2⟩
 exact h
theorem Zw6{B:Ze}(h:ê B){id:Int}{l:Ŀ Zj}{Ζ:Int}(a:(hV B id l Ζ).2=0):ê (hV B id l Ζ).1/\(hV B id l Ζ).1.t.length=B.t.length:=by
 unfold hV at a⊢;split at a
 .cases a
 split at a
 .cases a
 split at a
 .rw[ā ‹_›,ā ‹_›,ą ‹_›];exact⟨h.map (λt=>(Lm _ _ _ _ t).1) (λt=>(Lm _ _ _ _ t).2.1) (λt=>(Lm _ _ _ _ t).2.2) λt c=>ZyP ŉ (h.num t c),ć _⟩
 cases a
structure iQ (x:Zr):Prop where
 fC:0<=x.fC/\x.fC<=255
 c:ij x.c
 kind:0<=x.kind/\x.kind<=255
 p:jg x.p
 o:0<=x.o/\x.o<=255
 l:∀y∈x.l,jN y
structure pr (x:Zr) (k:Zb) (q:Zc) (l:Ŀ Zj):Prop where
 core:(Bl x).Α k
 asks:(Bk x k).Α q
 nk:(AO x).Α l
 k:eA k
 q:fa q
 len:l.length<=4
 l:∀c∈l,Ë c
theorem ZxZ{x:Zr}(c:iQ x){k:Zb}(h:eA k):∃q,(Bk x k).Α q/\fa q:=by
 have s:=h.ok.n;have l:=h.n3;obtain⟨n,j⟩:∃n:Nat,k.n=(n:Int):=⟨k.n.toNat,ŉ⟩;have i:(if 3<k.n then 3 else k.n)=(n:Int):=by rw[ā ŉ,j]
 have a:∀p:Ú,ω p->∃q,(EW x ⟨i64.wrap (Int.tmod x.kind 12),p,[]⟩).Α q/\fa q:=λp hp=>by
  by_cases e:i64.wrap (Int.tmod x.kind 12)=3
  .obtain⟨u,r⟩:∃u:Nat,x.o=(u:Int):=⟨x.o.toNat,by have:=c.o;omega⟩;have m:(xw x.o).Α (l4 u):=by rw[r];exact TO (by have:=c.o;omega)
   exact⟨⟨_,p,l4 u⟩,Cq.wp.yes e ⟨_,m,rfl⟩,⟨hp,.inl Uj⟩⟩
  exact⟨_,Cq.wp.no e rfl,⟨hp,(fa.nil 0).o⟩⟩
 cases g:decide (i64.wrap (Int.tmod x.kind 12)=1\/i64.wrap (Int.tmod x.kind 12)=7\/i64.wrap (Int.tmod x.kind 12)=9)with
 |true=>
  obtain⟨q,f,h2⟩:=a _ (LQ c.p (n:=n) ŉ (d:=2) ĳ ĳ (k:=3) ĳ).1;exact⟨q,⟨true,by rw[<-g];exact LI _,Cq.wp.yes rfl ⟨_,by rw[i];exact Ly c.p (n:=n) ŉ ĳ ĳ (k:=3) ĳ,f⟩⟩,h2⟩
 |false=>
  obtain⟨q,f,h2⟩:=a [] (ω.of ĳ);exact⟨q,⟨false,by rw[<-g];exact LI _,Cq.wp.nr rfl f⟩,h2⟩
theorem Zvh{x:Zr}(c:iQ x):∃k,(Bl x).Α k/\eA k:=by obtain⟨a,f⟩:=Zvv c.c;obtain⟨e,d⟩:=Zx5 a ŉ;refine⟨_,⟨_,ZuN c.c,_,Zu0 a,rfl⟩,d,?_⟩;rw[e];show pk _<=3;have g:(jb x.c).vars.length=jv x.c:=Ft x.c;have:=Bv x.c;unfold pk;split<;>omega
theorem T7{x:Zr}(a:iQ x):∃k q l,pr x k q l:=by obtain⟨k,c,k2⟩:=Zvh a;obtain⟨q,g,h⟩:=ZxZ a k2;obtain⟨l,d,e,f⟩:=ZuL a.l;exact⟨k,q,l,c,g,d,k2,h,e,f⟩
def gX(B:Ze)(x:Zr)(k:Zb)(q:Zc)(l:Ŀ Zj):Ze×Int×Int:=
 if Int.tmod x.fC 2=0 then(if(gG B k q).2.2=0 then gG B k q else(B,0,(gG B k q).2.2))
 else(if(hV B x.id l x.Ζ).2=0 then((hV B x.id l x.Ζ).1,0,0)else(B,0,(hV B x.id l x.Ζ).2))
theorem ZxV{B:Ze}{k:Zb}{q:Zc}(h:¬(gG B k q).2.2=0):(gG B k q).2.1=0:=by
 unfold gG at h⊢;split at h
 .exact absurd rfl h
 rw[ā ‹_›]
theorem SP{B:Ze}(h:ê B)(g:B.t.length<=90){x:Zr}{k:Zb}{q:Zc}{l:Ŀ Zj}(a:pr x k q l):(KM B x).Α (gX B x k q l)/\(LD B x).Α (gX B x k q l):=by
 unfold gX;by_cases d:Int.tmod x.fC 2=0
 .rw[ą d];have a1:=Bc h ŉ a.k a.q;have a2:=ZxS h ŉ a.k a.q;by_cases c:(gG B k q).2.2=0
  .rw[ą c];refine⟨Cq.wp.yes d ⟨_,a.core,_,a.asks,_,a1,Cq.wp.no (λe=>e c) rfl⟩,Cq.wp.yes d ⟨_,a.core,_,a.asks,_,a2,Cq.wp.no (λe=>e c) ?_⟩⟩;show _=_;have:gG B k q=((gG B k q).1,(gG B k q).2.1,0):=by rw[<-c]
   exact this.symm
  rw[ā c];refine⟨Cq.wp.yes d ⟨_,a.core,_,a.asks,_,a1,Cq.wp.yes c ?_⟩,Cq.wp.yes d ⟨_,a.core,_,a.asks,_,a2,Cq.wp.yes c rfl⟩⟩;show _=_;rw[ZxV c]
 rw[ā d];have f:=a.len;have a1:=AT h ŉ x.id ŉ a.l x.Ζ;have a2:=Zu1 h ŉ x.id ŉ a.l x.Ζ;by_cases c:(hV B x.id l x.Ζ).2=0
 .rw[ą c];refine⟨Cq.wp.no d ⟨_,a.nk,_,a1,Cq.wp.no (λe=>e c) ?_⟩,Cq.wp.no d ⟨_,a.nk,_,a2,Cq.wp.no (λe=>e c) rfl⟩⟩;show _=_;rw[c]
 rw[ā c];exact⟨Cq.wp.no d ⟨_,a.nk,_,a1,Cq.wp.yes c rfl⟩,Cq.wp.no d ⟨_,a.nk,_,a2,Cq.wp.yes c rfl⟩⟩
theorem FM{B:Ze}(h:ê B){k:Zb}{q:Zc}(d:eA k)(e:fa q)(a:(gG B k q).2.2=0):Grown B (gG B k q).1 4:=by
 unfold gG at a⊢;split at a
 .rw[ą ‹_›];have c:=Mt (eQ q (â k).2).kind;exact(F0 (n:=5) ŉ h (iP.of d e ‹_›)).1.up c
 cases a
theorem K4{B:Ze}(h:ê B){x:Zr}{k:Zb}{q:Zc}{l:Ŀ Zj}(c:pr x k q l):ê (gX B x k q l).1/\B.t.length<=(gX B x k q l).1.t.length/\(gX B x k q l).1.t.length<=B.t.length+4:=by
 unfold gX;split
 .split
  .have a:=FM h c.k c.q ‹_›;exact⟨a.ok,a.pre.length_le,a.len⟩
  exact⟨h,ĉ _,abo _ _⟩
 split
 .obtain⟨d,e⟩:=Zw6 h ‹_›;exact⟨d,aaS e.symm,by show(hV B x.id l x.Ζ).1.t.length<=_;omega⟩
 exact⟨h,ĉ _,abo _ _⟩
def jB:Ze:=⟨[],1⟩
theorem yZ:ê jB where
 can t a:=absurd a ĝ
 ids i hi:=absurd hi (ı _)
 next:=rfl
 Ý:=List.Pairwise.nil
 lV i hi:=absurd hi (ı _)
 num t a:=absurd a ĝ
theorem Zva{l:Ŀ Zr}(h:∀x∈l,iQ x):∃B,(LH l).Α B/\ê B/\B.t.length<=24:=by
 have key:∀(m i:Nat),m+i=min l.length 6->∀B,ê B->B.t.length<=4*i->∃C,(Rf l ((i:Int),B)).Α C/\ê C/\C.t.length<=24:=by
  intro m;induction m with
  |zero=>
   intro i hi B d j;refine⟨B,Cq.Zt ?_,d,ŉ⟩;by_cases h:i<l.length
   .exact Cq.wp.yes ŉ (Cq.wp.no ŉ rfl)
   exact Cq.wp.no ŉ rfl
  |succ m n=>
   intro i hi B d j;have a:i<l.length:=ŉ;obtain⟨k,q,c,hp⟩:=T7 (h _ (ă a));obtain⟨d1,d2,d3⟩:=K4 d hp;obtain⟨C,e,f,g⟩:=n (i+1) ŉ _ d1 ŉ;refine⟨C,Cq.Zt (Cq.wp.yes ŉ (Cq.wp.yes ŉ ⟨_,Ξ a,_,(SP d ŉ hp).2,?_⟩)),f,g⟩;show(Cq.loop _ _).wp _;rw[ψ ŉ];exact e
 obtain⟨C,e,f,g⟩:=key (min l.length 6) 0 ŉ jB yZ (ĉ _);exact⟨C,⟨jB,rfl,Cq.eY e rfl⟩,f,g⟩
end Go.EL

namespace Go.Proofs.YtepbagkffgddlaaGreat
open Go.IntKind (i8 i16 i32 i64 u8 u16 u32 u64)
open Go.Proofs.Tryz
open Go Go.EL Go.RowKit Go.Proofs
def sL(x:Zu):Prop:=(∀y∈x.t,∀i,(Lit.int .i8 (y i)).wf=true)
def yi(x:ZA):Prop:=((Lit.int .u8 x.n).wf=true)/\(∀y∈x.l,sL y)/\(∀y∈x.il,(Lit.int .u8 y).wf=true)
def sK(x:ZM):Prop:=((Lit.int .u8 x.kind).wf=true)/\(∀y∈x.l,sL y)/\(∀y∈x.v,(Lit.int .i8 y).wf=true)
def CY(x:Zr):Prop:=((Lit.int .u8 x.fC).wf=true)/\(yi x.c)/\((Lit.int .u8 x.kind).wf=true)/\(sL x.p)/\((Lit.int .u8 x.o).wf=true)/\(∀y∈x.l,sK y)/\((Lit.int .i64 x.id).wf=true)/\((Lit.int .i64 x.Ζ).wf=true)
theorem nw(W:World):È prog W 37 ZN (sL):=by have h:=È.struct (W:=W) underlying37 İ (eM.last rfl İ (È.sl underlying35 İ ĳ (È.vec underlying197 underlying196 İ İ))) (λ(x:Zu)=>x.t) (λy=>⟨y⟩) (λ_=>rfl);exact h
theorem uR(W:World):È prog W 34 Km (yi):=by have h:=È.struct (W:=W) underlying34 İ (eM.cons rfl İ (È.int underlying5) (eM.cons rfl İ (È.sl underlying31 İ ĳ (nw W)) (eM.last rfl İ (È.sl underlying32 İ ĳ (È.int underlying5))))) (λ(x:ZA)=>(x.n,x.l,x.il)) (λy=>⟨y.1,y.2.1,y.2.2⟩) (λ_=>rfl);exact h
theorem sM(W:World):È prog W 160 tD (sK):=by have h:=È.struct (W:=W) underlying160 İ (eM.cons rfl İ (È.int underlying5) (eM.cons rfl İ (È.sl underlying31 İ ĳ (nw W)) (eM.last rfl İ (È.sl underlying158 İ ĳ (È.int underlying196))))) (λ(x:ZM)=>(x.kind,x.l,x.v)) (λy=>⟨y.1,y.2.1,y.2.2⟩) (λ_=>rfl);exact h
theorem qg(W:World):È prog W 40 yL (CY):=by have h:=È.struct (W:=W) underlying40 İ (eM.cons rfl İ (È.int underlying5) (eM.cons rfl İ (uR W) (eM.cons rfl İ (È.int underlying5) (eM.cons rfl İ (nw W) (eM.cons rfl İ (È.int underlying5) (eM.cons rfl İ (È.sl underlying38 İ ĳ (sM W)) (eM.cons rfl İ (È.int underlying3) (eM.last rfl İ (È.int underlying3))))))))) (λ(x:Zr)=>(x.fC,x.c,x.kind,x.p,x.o,x.l,x.id,x.Ζ)) (λy=>⟨y.1,y.2.1,y.2.2.1,y.2.2.2.1,y.2.2.2.2.1,y.2.2.2.2.2.1,y.2.2.2.2.2.2.1,y.2.2.2.2.2.2.2⟩) (λ_=>rfl);exact h
theorem Mx{x:Zu}(h:sL x):jg x:=λv a j=>wf_i8 (h v a j)
theorem ZyE{x:ZA}(h:yi x):ij x:=⟨wf_u8 h.1,λy c=>Mx (h.2.1 y c),λg a=>wf_u8 (h.2.2 g a)⟩
theorem ZyD{x:ZM}(h:sK x):jN x:=⟨wf_u8 h.1,λy c=>Mx (h.2.1 y c),λg a=>wf_i8 (h.2.2 g a)⟩
theorem Uq{x:Zr}(h:CY x):iQ x:=⟨wf_u8 h.1,ZyE h.2.1,wf_u8 h.2.2.1,Mx h.2.2.2.1,wf_u8 h.2.2.2.2.1,λy a=>ZyD (h.2.2.2.2.2.1 y a)⟩
set_option maxRecDepth 100000 in
theorem Zxa{W:World}{base:Nat}{v:Value}{H:Type}{enc:TypeId×Value->H}{b:Nat}{d:DataW H}{ps:Ŀ MemPlace}(a:Value.okWide prog W .any base 40 v)(h:DataW.Trod enc prog W b (λ_=>true) true 40 v d ps):∃(x:Zr) (p:ŀ Addr) (c:Nat) (q:ŀ Addr) (e:Nat) (r:ŀ Addr) (f:Nat) (s:ŀ Addr) (g:Nat),v=.agg ([.int .u8 x.fC,.int .u8 x.c.n,.slice p x.c.l.length c,.slice q x.c.il.length e,.int .u8 x.kind,.slice r x.p.t.length f,.int .u8 x.o,.slice s x.l.length g,.int .i64 x.id,.int .i64 x.Ζ]).toArray/\(Η ZN (gO W) (.slice p x.c.l.length c) x.c.l/\Η (Rp.int .u8) (gO W) (.slice q x.c.il.length e) x.c.il/\Η (Rp.vec .i8 5) (gO W) (.slice r x.p.t.length f) x.p.t/\Η tD (gO W) (.slice s x.l.length g) x.l)/\iQ x:=by obtain⟨cs,x,rfl,h2,h3⟩:=ZtF underlying40 (qg W) a h;obtain⟨p,c,q,e,r,f,s,g,i,k2,k3,k,l⟩:=Qe (K:=λj u=>cs[j]?=some u) (Zx0 h2);exact⟨x,p,c,q,e,r,f,s,g,by rw[Zx2 h2 (by rfl) i],⟨k2,k3,k,l⟩,Uq h3⟩
set_option maxRecDepth 100000 in
theorem ZvB{W:World}{base:Nat}{v:Value}{H:Type}{enc:TypeId×Value->H}{b:Nat}{d:DataW H}{ps:Ŀ MemPlace}(a:Value.okWide prog W .any base 22 v)(h:DataW.Trod enc prog W b (λ_=>true) true 22 v d ps):∃p cap l,v=.slice p (List.length l) cap/\Η yL (gO W) (.slice p l.length cap) l/\∀y∈l,iQ y:=by obtain⟨p,cap,l,c,h2,h3⟩:=ZtE underlying22 İ ĳ (qg W) a h;exact⟨p,cap,l,c,h2,λy e=>Uq (h3 y e)⟩
end Go.Proofs.YtepbagkffgddlaaGreat

