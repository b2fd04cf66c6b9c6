/- The law TaskMatchesReference holds for every input: a part of its proof (fX the code does, plain models, and fX they return). No condition. -/
import Derived.Test.YtepbagkffgddlaaGreatXMR20d
import Derived.Test.YtepbagkffgddlaaGreatXMR20c
import Derived.Test.YtepbagkffgddlaaGreatXMR20b
set_option linter.unusedVariables false
set_option linter.unusedSimpArgs false
namespace Go.EL
open Go.IntKind (i8 i16 i32 i64 u8 u16 u32 u64)
open Go Go.RowKit
theorem TZ:∀(f:Nat) (n:Int),(iH f n).length<=f+1
 |0,_=>by simp[iH]
 |f+1,n=>by
  unfold iH;split
  .have:=TZ f (u64.wrap (Int.tdiv n 128));rw[ę];omega
  simp
theorem q0(n:Int):(fw n).length<=11:=TZ 10 n
theorem qu{n:Int}(a:0<=n):0<=Int.tdiv n 128/\Int.tdiv n 128=n / 128:=⟨Int.tdiv_nonneg a ĳ,aa9 a⟩
theorem TF:∀(f:Nat) (b:Ŀ Int) (n:Int),0<=n->n<128 ^ (f+1)->n<18446744073709551616->b.length+f+1<=1000000->(EX (b,n)).wp λo=>(EY o.1 o.2).Α (b++iH f n)
 |0,b,n,c,d,h2,g=>by refine Cq.Zr (Cq.wp.no ŉ ?_);show(EY b n).Α _;refine⟨?_,rfl⟩;rw[Ā,ė];simp only[small];omega
 |f+1,b,n,c,d,h2,g=>by
  by_cases h:127<n
  .refine Cq.Zr (Cq.wp.yes h ⟨?_,?_⟩)
   .rw[Ā,ė];simp only[small];omega
   obtain⟨d0,d1⟩:=qu c;have a:n / 128<128 ^ (f+1):=Int.ediv_lt_of_lt_mul ĳ (by rw[<-Int.pow_succ];exact d);have i:u64.wrap (Int.tdiv n 128)=n / 128:=by rw[d1];exact qD ⟨ŉ,ŉ⟩
   show(EX _).wp _;have j:=TF f (b++[u8.wrap (u8.wrap (Int.tmod n 128)+128)]) (u64.wrap (Int.tdiv n 128)) ŉ (by rw[i];exact a) ŉ (by rw[Ā,ė];omega);refine(EX _).mono (λo e=>?_) j;rw[Đ]at e;unfold iH;rw[ą (show 128<=n by omega)];exact e
  refine Cq.Zr (Cq.wp.no h ?_);show(EY b n).Α _;unfold iH;rw[ā (show ¬128<=n by omega)];refine⟨?_,rfl⟩;rw[Ā,ė];simp only[small];omega
theorem Ob:(128:Int) ^ (10+1)=151115727451828646838272:=ĳ
theorem vm{b:Ŀ Int}{n:Int}(h:0<=n/\n<18446744073709551616)(c:b.length<=900000):(ua b n).Α (b++fw n):=by have a:=Ob;exact TF 10 b n h.1 ŉ h.2 ŉ
theorem xA{n:Nat}(h:n<=1000000):u64.wrap (n:Int)=(n:Int):=qD ⟨ŉ,ŉ⟩
theorem Lb(d:Int):(fF d).length=4:=rfl
theorem tT{α:Type}{f:α->Ŀ Int}{K:Nat}:∀{l:Ŀ α},(∀x∈l,(f x).length<=K)->(l.flatMap f).length<=K*l.length
 |[],_=>Ċ _
 |x::l,h=>by have c:=h x ß;have h2:=tT (l:=l) (λy a=>h y (by simp[a]));rw[Ř,Ā,ę,Nat.mul_succ];omega
theorem Fe{α:Type}(f:α->Ŀ Int)(l:Ŀ α){k:Nat}(a:k<l.length):(l.take (k+1)).flatMap f=(l.take k).flatMap f++f l[k]:=by rw[č a,Ů];simp
theorem Lr{a:Zg}(h:a.υ.length<=1):(lq a).length<=15:=by unfold lq;rw[Ā];have c:=q0 (if a.neg=true then u64.wrap (u64.wrap (2*u64.wrap (a.υ.length:Int))+1)else u64.wrap (2*u64.wrap (a.υ.length:Int)));have h2:=tT (K:=4) (l:=a.υ) (f:=fF) (λx _=>aaV (Lb x));omega
theorem RF{b:Ŀ Int}{a:Zg}(h:a.υ.length<=1)(m:b.length<=800000):(AM b a).Α (b++lq a):=by
 have key:∀s:Int,0<=s->s<=1->(Et b a s).Α (b++(fw (u64.wrap (u64.wrap (u64.wrap (a.υ.length:Int)*2)+s))++a.υ.flatMap fF)):=λs p q=>by
  have e:=xA (n:=a.υ.length) ŉ;have c:u64.wrap ((a.υ.length:Int)*2)=(a.υ.length:Int)*2:=qD ⟨ŉ,ŉ⟩;have j:u64.wrap ((a.υ.length:Int)*2+s)=(a.υ.length:Int)*2+s:=qD ⟨ŉ,ŉ⟩;refine⟨_,vm (by rw[e,c,j];omega) ŉ,?_⟩;have d:=q0 (u64.wrap (u64.wrap (u64.wrap (a.υ.length:Int)*2)+s));generalize fw (u64.wrap (u64.wrap (u64.wrap (a.υ.length:Int)*2)+s))=N at *;refine Cq.Zn a.υ.length (λk st=>st=(b++N++(a.υ.take k).flatMap fF,(k:Int))) (λk st i g=>?_) (λst g=>?_) (by show _=_;simp)
  .subst g;refine Cq.wp.yes ŉ ⟨_,Κ i,?_,?_⟩
   .have:=tT (K:=4) (l:=a.υ.take k) (f:=fF) (λx _=>aaV (Lb x));rw[Č]at this;simp only[Ā,ę,ķ,small];omega
   show _=_;rw[ψ ŉ,Fe fF a.υ i,<-Đ];rfl
  subst g;refine Cq.wp.no ŉ ?_;rw[ě (Ċ _)];show _=_;rw[Đ]
 unfold AM;have e:=xA (n:=a.υ.length) ŉ;have c:u64.wrap ((a.υ.length:Int)*2)=(a.υ.length:Int)*2:=qD ⟨ŉ,ŉ⟩;by_cases d:a.neg=true
 .refine Cq.wp.yes d ?_;have:=key 1 ĳ ĳ;unfold lq;rw[ą d,aaC 2];exact this
 refine Cq.wp.no d ?_;have:=key 0 ĳ ĳ;unfold lq;rw[ā d,aaC 2];rw[aaB,e,c,c]at this;rw[e,c];exact this
theorem ω.CK{p:Ù}(h:ω p){t:Za}(d:t∈p):t.c.num.υ.length<=1/\t.c.den.υ.length<=1:=by obtain⟨a,c⟩:=h.parts d;rw[a,c];refine⟨?_,Ċ 1⟩;show(uF _).length<=1;unfold uF;split<;>simp
theorem Ub{p:Ù}(h:ω p){t:Za}(c:t∈p):(mq t.c).length<=30:=by obtain⟨a,h2⟩:=h.CK c;have:=Lr a;have:=Lr h2;unfold mq;rw[Ā];omega
theorem LK(m:M):∀k,(iG m k).length<=11*k
 |0=>Ċ _
 |k+1=>by have:=LK m k;have:=q0 (u64.wrap (Ε m (k:Int)));unfold iG;rw[Ā];omega
theorem S5{p:Ù}(h:ω p){t:Za}(a:t∈p):(fU t).length<=118:=by have:=Ub h a;have:=LK t.m 8;unfold fU;rw[Ā];omega
theorem Fi{p:Ù}(h:ω p):(fE p).length<=11811:=by have c:=q0 (u64.wrap (p.length:Int));have h2:=tT (f:=fU) (K:=118) (λt a=>S5 h a);have h3:=h.len;have:118*p.length<=11800:=ŉ;unfold fE;rw[Ā];omega
theorem AE{l:Ŀ Ù}(h:∀p∈l,ω p)(c:l.length<=12):(fS l).length<=150000:=by have a:=q0 (u64.wrap (l.length:Int));have h2:=tT (f:=fE) (K:=11811) (λp hp=>Fi (h p hp));have:11811*l.length<=141732:=ŉ;unfold fS;rw[Ā];omega
theorem Sp{b:Ŀ Int}{p:Ù}(h:ω p)(A:b.length<=700000):(FG b p).Α (b++fE p):=by
 have C:=h.len;have m:=xA (n:=p.length) ŉ;refine⟨_,vm (by rw[m];omega) ŉ,?_⟩;unfold fE;have E:=q0 (u64.wrap (p.length:Int));generalize fw (u64.wrap (p.length:Int))=N at *;refine Cq.Zn p.length (λk st=>st=(b++N++(p.take k).flatMap fU,(k:Int))) (λk st d a=>?_) (λst a=>?_) (by show _=_;simp)
 .subst a;have e:=Ă d;obtain⟨i,y⟩:=h.CK e;have r:=tT (K:=118) (l:=p.take k) (f:=fU) (λx v=>S5 h (ś v));rw[Č]at r;have s:118*min k p.length<=11800:=ŉ;have hr:=Ub h e;refine Cq.wp.yes ŉ ⟨_,Κ d,b++N++(p.take k).flatMap fU++mq p[k].c,⟨_,RF i (by simp only[Ā];omega),_,RF y (by
   have:=Lr i;simp only[Ā];omega),?_⟩,?_⟩
  .show _=_;unfold mq;simp only[Đ]
  generalize g:b++N++(p.take k).flatMap fU++mq p[k].c=B;have q:B.length<=750000:=by rw[<-g];simp only[Ā];omega
  refine Cq.Zn 8 (λj st=>st=(B++iG p[k].m j,(j:Int))) (λj st c a=>?_) (λst a=>?_) (by show _=_;simp[iG])
  .subst a;have D:=(h.mono _ e) ⟨j,c⟩;have t:=LK p[k].m j;have u:u64.wrap (p[k].m ⟨j,c⟩)=p[k].m ⟨j,c⟩:=qD ⟨ŉ,ŉ⟩;refine Cq.wp.yes ŉ ⟨_,Κ d,⟨ŉ,ŉ⟩,B++iG p[k].m j++fw (u64.wrap (Ε p[k].m (j:Int))),vm (by rw[Õ c,u];omega) (by rw[Ā];omega),?_⟩;show _=_;rw[ψ ŉ,Đ];rfl
  subst a;refine Cq.wp.no ĳ ?_;show _=_;rw[ψ ŉ,Fe fU p d,<-g];unfold fU;simp only[Đ]
 subst a;refine Cq.wp.no ŉ ?_;rw[ě (Ċ _)];show _=_;rw[Đ]
theorem RD{b:Ŀ Int}{l:Ŀ Ù}(h:∀p∈l,ω p)(m:l.length<=12)(j:b.length<=500000):(Ft b l).Α (b++fS l):=by
 have d:=xA (n:=l.length) ŉ;refine⟨_,vm (by rw[d];omega) ŉ,?_⟩;unfold fS;have q:=q0 (u64.wrap (l.length:Int));generalize fw (u64.wrap (l.length:Int))=N at *;refine Cq.Zn l.length (λk st=>st=(b++N++(l.take k).flatMap fE,(k:Int))) (λk st a c=>?_) (λst c=>?_) (by show _=_;simp)
 .subst c;have e:=tT (K:=11811) (l:=l.take k) (f:=fE) (λx i=>Fi (h x (ś i)));rw[Č]at e;have g:11811*min k l.length<=141732:=ŉ;refine Cq.wp.yes ŉ ⟨_,Κ a,_,Sp (h _ (Ă a)) (by simp only[Ā];omega),?_⟩;show _=_;rw[ψ ŉ,Fe fE l a];simp only[Đ]
 subst c;refine Cq.wp.no ŉ ?_;rw[ě (Ċ _)];show _=_;rw[Đ]
structure iN (n:Int) (least:Int) (l:Ŀ Ù):Prop where
 len:l.length<=12
 hZ:∀p∈l,ω p/\Ð p n=true/\p≠[]/\Χ p=p/\least<=gf p
 st:hK l
structure æ (k:Zb):Prop where
 n:1<=k.n/\k.n<=4
 eqs:iN k.n 0 k.eqs
 ε:iN k.n 1 k.ε
theorem FT(n:Int):(ls n).length<=11:=q0 _
theorem SX{k:Zb}(g:0<=k.n/\k.n<=1000)(c:∀p∈k.eqs,ω p)(hi:∀p∈k.ε,ω p)(le:k.eqs.length<=12)(e:k.ε.length<=12):(vk [] k).Α (gU k):=by
 have d:u64.wrap k.n=k.n:=qD ⟨ŉ,ŉ⟩;have a:u64.wrap (k.n*2)=k.n*2:=qD ⟨ŉ,ŉ⟩;have f:=FT k.n;have h2:=AE c le;refine⟨ls k.n,Cq.wp.no ŉ ⟨_,vm (b:=[]) (by rw[d,a];omega) ß,?_⟩,_,RD c le ŉ,_,RD hi e (by rw[Ā];omega),?_⟩
 .show _=_;unfold ls;rw[aaC 2];rfl
 rfl
theorem æ.C2{k:Zb}(h:æ k):(vk [] k).Α (gU k):=SX ⟨by have:=h.n;omega,by have:=h.n;omega⟩ (λp hp=>(h.eqs.hZ p hp).1) (λp hp=>(h.ε.hZ p hp).1) h.eqs.len h.ε.len
theorem Zwm{k:Zb}(h:æ k):(gU k).length<=1000000:=by have a:=FT k.n;have h2:=AE (λp hp=>(h.eqs.hZ p hp).1) h.eqs.len;have h3:=AE (λp hp=>(h.ε.hZ p hp).1) h.ε.len;unfold gU;simp only[Ā];omega
theorem Fc{p:Ù}{n:Int}(h:Ð p n=true):(Int.fdiv (i64.wrap (ï p)) (2 ^ (min n.toNat i64.bits)))=0/\gf p<=12:=by
 unfold Ð at h;split at h
 .exact⟨‹_›,ĥ h⟩
 cases h
theorem S3{l:Ŀ Ù}(h:hK l){k:Nat}(a:k+1<l.length):ì l[k] l[k+1]<0:=ħ.1 h k (k+1) ŉ a ŉ
theorem QR{k:Zb}(p:1<=k.n/\k.n<=4){least:Int}{l:Ŀ Ù}(h:iN k.n least l):(À ⟨k⟩ l least).Α true:=by
 have n:=h.len;refine Cq.wp.no ŉ ?_;refine Cq.Zn l.length (λj s=>s=(j:Int)) (λj s c d=>?_) (λs d=>?_) rfl
 .subst d;obtain⟨a,f,g,q4,q5⟩:=h.hZ _ (Ă c);obtain⟨f1,f2⟩:=Fc f;refine Cq.wp.yes ŉ ⟨_,Κ c,true,⟨true,DS a,_,Fz a.len,by show 0<=k.n;omega,Cq.wp.yes f1 ⟨_,yu a,ă f2⟩⟩,_,yu a,Cq.wp.no ŉ ⟨_,Kj a g,true,?_,Cq.wp.no ĳ ?_⟩⟩
  .rw[q4];have:=E2 a.gp a.gp;rw[xi]at this;exact this
  by_cases e:(0:Int)<(j:Int)
  .obtain⟨i,rfl⟩:∃i,j=i+1:=⟨j-1,ŉ⟩;have hi:i64.wrap (((i+1:Nat):Int)-1)=(i:Int):=by rw[wrap64 ŉ];omega
   have m:=S3 h.st c;refine Cq.wp.yes e ?_;rw[hi];refine⟨_,Κ ŉ,_,Tb (h.hZ _ (Ă ŉ)).1.gp a.gp,Cq.wp.no ŉ ?_⟩;exact ψ ŉ
  exact Cq.wp.no e (ψ ŉ)
 subst d;exact Cq.wp.no ŉ rfl
theorem E4{k:Zb}(h:æ k):(vb k).Α true:=
 ⟨true,Cq.wp.yes h.n.1 (Cq.wp.yes h.n.2 ⟨true,QR h.n h.eqs,true,QR h.n h.ε,rfl⟩),rfl⟩
theorem Zrp{p:Ù}(h:ω p){n:Nat}(e:n<=4)(d:Ð p (n:Int)=true):(wV p (n:Int) 12).Α true:=by
 have g:=(pz (p:=p) (n:=n) ŉ).1 d;obtain⟨f1,f2⟩:=Fc d;have c:u64.wrap (n:Int)=(n:Int):=by
  match n,e with
  |0,_=>rfl
  |1,_=>rfl
  |2,_=>rfl
  |3,_=>rfl
  |4,_=>rfl
 have i:=tX p;have f:=yF.2 g.1;rw[Ű]at f;have a:(ï p).toNat<2 ^ n:=by
  rcases eG.1 f with h|h
  .have:=aab n;omega
  exact h
 refine⟨true,Aa h,_,z8 h.len,by rw[c];omega,Cq.wp.yes ?_ ⟨_,wS h,ă f2⟩⟩;rw[c,wrap64 ŉ];match n,e with
 |0,_=>exact ő (show ï p<1 by simp at a;omega) ĳ
 |1,_=>exact ő (show ï p<2 by simp at a;omega) ĳ
 |2,_=>exact ő (show ï p<4 by simp at a;omega) ĳ
 |3,_=>exact ő (show ï p<8 by simp at a;omega) ĳ
 |4,_=>exact ő (show ï p<16 by simp at a;omega) ĳ
theorem Qj{n:Int}(f:1<=n/\n<=4){least:Int}{l:Ŀ Ù}(h:iN n least l):(E0 l n).Α true:=by
 have r:=h.len;obtain⟨m,rfl,t,g⟩:=vw f;refine Cq.wp.no ŉ ?_;refine Cq.Zn l.length (λj s=>s=(j:Int)) (λj s a d=>?_) (λs d=>?_) rfl
 .subst d;obtain⟨c,k,p,q4,q5⟩:=h.hZ _ (Ă a);have hp:0<l[j].length:=Š.2 p;refine Cq.wp.yes ŉ ⟨_,Κ a,true,Zrp c g k,_,Κ a,Cq.wp.no ŉ ⟨_,Κ a,_,PE c,_,Κ a,true,?_,?_⟩⟩
  .rw[q4];have:=Kf c.gp c.gp;rw[xi]at this;exact this
  show(if(0:Int)<(j:Int)then _ else _:Cq _).wp _;by_cases e:(0:Int)<(j:Int)
  .obtain⟨i,rfl⟩:∃i,j=i+1:=⟨j-1,ŉ⟩;have hi:i64.wrap (((i+1:Nat):Int)-1)=(i:Int):=by rw[wrap64 ŉ];omega
   have q:=S3 h.st a;refine Cq.wp.yes e ?_;rw[hi];refine⟨_,Κ ŉ,_,Κ a,_,Sn (h.hZ _ (Ă ŉ)).1.gp c.gp,Cq.wp.no ŉ ?_⟩;exact ψ ŉ
  exact Cq.wp.no e (ψ ŉ)
 subst d;exact Cq.wp.no ŉ rfl
theorem J7{k:Zb}(h:æ k):(AL k).Α true:=by
 have f:=h.n;have e:=h.ε.len;refine Cq.wp.no ŉ (Cq.wp.no ŉ ⟨true,Qj h.n h.eqs,true,Qj h.n h.ε,Cq.wp.no ĳ ?_⟩);refine Cq.Zn k.ε.length (λj s=>s=(j:Int)) (λj s c a=>?_) (λs a=>?_) rfl
 .subst a;obtain⟨d,g,i,q4,q5⟩:=h.ε.hZ _ (Ă c);refine Cq.wp.yes ŉ ⟨_,Κ c,_,wS d,Cq.wp.no ŉ ?_⟩;exact ψ ŉ
 subst a;exact Cq.wp.no ŉ rfl
def ÿ(k:Zb):Ĳ:=bytesOf (gU k)
theorem y4{k:Zb}(h:æ k):(ve k).Α (ÿ k):=⟨true,E4 h,⟨by have:=h.n;omega,Zwm h⟩,rfl⟩
theorem TE{k:Zb}(h:æ k):(F4 k).Α (ÿ k):=⟨true,J7 h,Cq.wp.no ĳ ⟨_,h.C2,rfl⟩⟩
end Go.EL

namespace Go.EL
open Go.IntKind (i8 i16 i32 i64 u8 u16 u32 u64)
open Go Go.RowKit
structure gD (n:Nat) (π:M):Prop where
 perm:Ë π
 fix:∀i:Fin 8,n<=i.val->π i=(i.val:Int)
def jz(n:Nat)(π:M):Bool:=decide (∀i,0<=π i/\π i<8)&&decide (∀i j,π i=π j->i=j)&&decide (∀i:Fin 8,n<=i.val->π i=(i.val:Int))
theorem gD.of{n:Nat}{π:M}(h:jz n π=true):gD n π:=by unfold jz at h;simp only[Ĉ,Ě]at h;exact⟨⟨h.1.1,h.1.2⟩,h.2⟩
theorem Zxh:((Β 1).all (jz 1)&&(Β 2).all (jz 2)&&(Β 3).all (jz 3)&&(Β 4).all (jz 4))=true:=by decide +kernel
theorem og{n:Nat}(h:1<=n/\n<=4){π:M}(hp:π∈Β n):gD n π:=by
 have:=Zxh;simp only[Ĉ,Ć]at this;obtain⟨⟨⟨a,h2⟩,h3⟩,c⟩:=this;have d:n=1\/n=2\/n=3\/n=4:=ŉ;rcases d with rfl|rfl|rfl|rfl
 .exact .of (a π hp)
 .exact .of (h2 π hp)
 .exact .of (h3 π hp)
 exact .of (c π hp)
theorem Zv4{n:Nat}(h:1<=n/\n<=4):(La (n:Int)).Α (Β n):=by
 have a:n=1\/n=2\/n=3\/n=4:=ŉ;rcases a with rfl|rfl|rfl|rfl<;>exact Cq.Α.l8 60 (by decide +kernel)
theorem vj{n:Nat}:Β n=(λi:Fin 8=>(i.val:Int))::(Β n).tail:=rfl
theorem SP{n:Nat}(d:n<=8){π:M}(h:gD n π){p:Ù}(hp:ω p)(f:Ð p (n:Int)=true):Ð (à π p) (n:Int)=true:=by
 obtain⟨e,h2⟩:=(pz d).1 f;refine(pz d).2 ⟨λt a i hi=>?_,λt a=>?_⟩
 .obtain⟨y,c,rfl⟩:=Ğ.1 ((q6 h.perm hp.ord).1.mem_iff.1 a);show ¬0<fx π y.m i;rw[tW h.perm y.m i i (h.fix i hi).symm];exact e y c i hi
 obtain⟨y,c,rfl⟩:=Ğ.1 ((q6 h.perm hp.ord).1.mem_iff.1 a);show fH (fx π y.m)<=12;rw[KZ h.perm];exact h2 y c
theorem Zxf{π:M}(h:Ë π){p:Ù}(hp:ω p):(à π p).length=p.length:=by rw[(q6 h hp.ord).1.length_eq,ć]
theorem Zyv{π:M}(h:Ë π){p:Ù}(hp:ω p)(a:p≠[]):à π p≠[]:=λe=>by have:=Zxf h hp;rw[e]at this;exact a (abq.1 this.symm)
theorem Zzr{p q:Ù}(hp:ω p)(e:ω q)(h:∀d,-1<=d->((∀t∈p,fH t.m<=d)↔∀t∈q,fH t.m<=d)):gf p=gf q:=by
 have low:∀r:Ù,-1<=gf r:=λr=>by
  have key:∀k,-1<=fI r k:=by
   intro k;induction k with
   |zero=>exact Ŝ _
   |succ k a=>
    unfold fI;split
    .split<;>omega
    exact a
  exact key _
 have c:=(tw (low q)).2 ((h _ (low q)).2 ((tw (low q)).1 (Ŝ _)));have h2:=(tw (low p)).2 ((h _ (low p)).1 ((tw (low p)).1 (Ŝ _)));omega
theorem Zxe{π:M}(h:Ë π){p:Ù}(hp:ω p):gf (à π p)=gf p:=by
 refine Zzr (oD h hp) hp (λd _=>⟨λa t c=>?_,λa t c=>?_⟩)
 .have:=a (jf π t) ((q6 h hp.ord).1.mem_iff.2 (Ğ.2 ⟨t,c,rfl⟩));have e:fH (jf π t).m=fH t.m:=KZ h t.m;omega
 obtain⟨y,f,rfl⟩:=Ğ.1 ((q6 h hp.ord).1.mem_iff.1 c);have:=a y f;have e:fH (jf π y).m=fH y.m:=KZ h y.m;omega
theorem Zz3{n:Nat}(h:n<=4):Ð iW (n:Int)=true:=(pz ŉ).2 ⟨λt a i _=>by rw[iW,Ē]at a;subst a;exact Int.lt_irrefl 0,λt a=>by rw[iW,Ē]at a;subst a;decide⟩
theorem Zz2:gf iW=0:=ĳ
theorem Ty{l:Ŀ Ù}{plain:Bool}{q:Ù}(h:q∈kept l plain):∃p∈l,q=Χ p/\p≠[]/\(plain=true->gf p≠0):=by
 obtain⟨a,h2⟩:=ō.1 h;obtain⟨p,hp,rfl⟩:=Ğ.1 a;unfold gW at h2;simp only[Ĉ,Ŕ,aaE]at h2;refine⟨p,hp,rfl,λe=>?_,λe=>?_⟩
 .rw[e]at h2;cases h2.1
 rcases h2.2 with h2|h2
 .rw[e]at h2;cases h2
 rw[xr]at h2;exact aaY h2
theorem ZzT{l:Ŀ Ù}{plain:Bool}{p:Ù}(hp:p∈l)(c:p≠[])(d:plain=true->gf p≠0):Χ p∈kept l plain:=by
 refine ō.2 ⟨Ğ.2 ⟨p,hp,rfl⟩,?_⟩;have a:(Χ p).isEmpty=false:=by simpa using λe=>c (Bb.1 e)
 unfold gW;rw[a,xr];cases plain with
 |false=>rfl
 |true=>rw[ĉ (d rfl)];rfl
theorem Uy{n:Nat}(e:n<=4){least:Int}{l:Ŀ Ù}(a:(ef l).length<=12)(h:∀p∈l,ω p/\Ð p (n:Int)=true/\p≠[]/\Χ p=p/\least<=gf p):iN (n:Int) least (ef l):=by obtain⟨c,d⟩:=FL (l:=l) (λp hp=>(h p hp).1.gp);exact⟨a,λp hp=>h p ((d p).1 hp),c⟩
theorem UL{n:Nat}(f:1<=n/\n<=4){eqs ε:Ŀ Ù}(g:∀p∈eqs,ω p/\Ð p (n:Int)=true)(hi:∀p∈ε,ω p/\Ð p (n:Int)=true)(j:(ef (hN eqs ε)).length<=12)(k:(ef (kept ε true)).length<=12):
  æ ⟨(n:Int),ef (hN eqs ε),ef (kept ε true)⟩ where
 n:=by show 1<=(n:Int)/\(n:Int)<=4;omega
 eqs:=Uy f.2 j λp hp=>by
  rcases Ĩ.1 hp with h|h
  .obtain⟨q,d,rfl,c,_⟩:=Ty h;have a:=(g q d).1;exact⟨vv a,by rw[T9];exact(g q d).2,λe=>c (Bb.1 e),Sm a,by rw[xr];exact KC a c⟩
  rw[LP p h];exact⟨Bj,Zz3 f.2,ĳ,LO,by rw[Zz2];decide⟩
 ε:=Uy f.2 k λp hp=>by obtain⟨q,d,rfl,c,i⟩:=Ty hp;have a:=(hi q d).1;have:=KC a c;have:=i rfl;exact⟨vv a,by rw[T9];exact(hi q d).2,λe=>c (Bb.1 e),Sm a,by rw[xr];omega⟩
def ý(k:Zb)(π:M):Zb:=(im k.n (k.eqs.map (à π)) (k.ε.map (à π))).1
theorem Le{l:Ŀ Ù}(h:∀p∈l,p≠[]):gI l=[]:=by unfold gI;rw[List.filter_eq_nil_iff.2 λp hp=>by simpa using h p hp];rfl
structure zZ (k:Zb) (π:M):Prop where
 norm:im k.n (k.eqs.map (à π)) (k.ε.map (à π))=(ý k π,0)
 eq:ý k π=⟨k.n,ef (hN (k.eqs.map (à π)) (k.ε.map (à π))),ef (kept (k.ε.map (à π)) true)⟩
 core:æ (ý k π)
theorem Gg{l:Ŀ Ù}{n:Nat}{least:Int}(g:n<=4)(h:iN (n:Int) least l){π:M}(a:gD n π):∀p∈l.map (à π),ω p/\Ð p (n:Int)=true/\p≠[]/\least<=gf p:=λp hp=>by obtain⟨q,d,rfl⟩:=Ğ.1 hp;obtain⟨c,e,f,q4,q5⟩:=h.hZ q d;exact⟨oD a.perm c,SP ŉ a c e,Zyv a.perm c f,by rw[Zxe a.perm c];exact q5⟩
theorem lP{k:Zb}(h:æ k){π:M}(a:gD k.n.toNat π):zZ k π:=by
 obtain⟨n,eqs,ε⟩:=k;obtain⟨m,rfl,t,f⟩:=vw h.n;dsimp only at a⊢;rw[Ĕ]at a;have e:=Gg f h.eqs a;have hi:=Gg f h.ε a;have r:(ef (hN (eqs.map (à π)) (ε.map (à π)))).length<=12:=by have g:=Gb (hN (eqs.map (à π)) (ε.map (à π)));have i:=vn (eqs.map (à π)) false;have j:=h.eqs.len;unfold hN at g;rw[Le (λp hp=>(hi p hp).2.2.1),Ę]at g;unfold hN;rw[Le (λp hp=>(hi p hp).2.2.1),Ę];rw[ć]at i;dsimp only at j;omega
 have s:(ef (kept (ε.map (à π)) true)).length<=12:=by have g:=Gb (kept (ε.map (à π)) true);have i:=vn (ε.map (à π)) true;have j:=h.ε.len;rw[ć]at i;dsimp only at j;omega
 have q:=UL ⟨t,f⟩ (λp hp=>⟨(e p hp).1,(e p hp).2.1⟩) (λp hp=>⟨(hi p hp).1,(hi p hp).2.1⟩) r s;have c:(eqs.map (à π)++ε.map (à π)).all (λp=>Ð p (m:Int))=true:=Ć.2 λp hp=>(Ĩ.1 hp).elim (λh=>(e p h).2.1) (λh=>(hi p h).2.1);have l:im (m:Int) (eqs.map (à π)) (ε.map (à π))=(⟨(m:Int),ef (hN (eqs.map (à π)) (ε.map (à π))),ef (kept (ε.map (à π)) true)⟩,0):=by unfold im;rw[ą ⟨ŉ,ŉ⟩,ą c,ā ŉ,ā ŉ]
 have d:ý ⟨(m:Int),eqs,ε⟩ π=⟨(m:Int),ef (hN (eqs.map (à π)) (ε.map (à π))),ef (kept (ε.map (à π)) true)⟩:=by unfold ý;dsimp only;rw[l]
 exact⟨by rw[l,d],d,by rw[d];exact q⟩
theorem QG{l:Ŀ Ù}(i:l.length<=100)(h:∀p∈l,ω p){π:M}(g:Ë π):(Ag l π).Α (l.map (à π)):=by
 refine⟨⟨ŉ,ŉ⟩,?_⟩;refine Cq.Zn l.length (λk s=>s=((l.take k).map (à π)++List.replicate (l.length-k) [],(k:Int))) (λk s c f=>?_) (λs f=>?_) (by show _=_;simp)
 .subst f;have a:((l.take k).map (à π)++List.replicate (l.length-k) ([]:Ù)).length=l.length:=ab0;refine Cq.wp.yes ŉ ⟨_,Κ c,_,Qx g (h _ (Ă c)),_,Κ (by rw[a];exact c),?_⟩;show _=_;rw[ψ ŉ,Ĕ,č c,ĩ,List.map_singleton];congr 1;rw[List.set_append,ā (by rw[ć,Č];omega)];have e:l.length-k=(l.length-(k+1))+1:=ŉ;have d:k-((l.take k).map (à π)).length=0:=ab0;rw[d,e,aaj,aa5,Đ];rfl
 subst f;refine Cq.wp.no ŉ ?_;show _=_;rw[ě (Ċ _)];simp
theorem P7{k:Zb}(h:æ k){π:M}(a:gD k.n.toNat π):(Eu k π).Α (ý k π):=by
 have f:=h.eqs.len;have g:=h.ε.len;refine Cq.Zn k.eqs.length (λj s=>s=((k.eqs.take j).map (à π),(j:Int))) (λj s c d=>?_) (λs d=>?_) rfl
 .subst d;refine Cq.wp.yes ŉ ⟨_,Κ c,_,Je a.perm (h.eqs.hZ _ (Ă c)).1,?_,?_⟩
  .simp only[Ā,ć,Č,ė,small];omega
  show _=_;rw[ψ ŉ,č c,ĩ];rfl
 subst d;refine Cq.wp.no ŉ ?_;rw[ě (Ċ _)];show(Pe k π (k.eqs.map (à π))).Α _;refine Cq.Zn k.ε.length (λj s=>s=((k.ε.take j).map (à π),(j:Int))) (λj s c d=>?_) (λs d=>?_) rfl
 .subst d;refine Cq.wp.yes ŉ ⟨_,Κ c,_,Je a.perm (h.ε.hZ _ (Ă c)).1,?_,?_⟩
  .simp only[Ā,ć,Č,ė,small];omega
  show _=_;rw[ψ ŉ,č c,ĩ];rfl
 subst d;refine Cq.wp.no ŉ ?_;rw[ě (Ċ _)];show(Pw k (k.eqs.map (à π)) (k.ε.map (à π))).Α _;refine⟨_,Q5 (by rw[ć];omega) (by rw[ć];omega) (λp hp=>?_) (λp hp=>?_),rfl⟩
 .obtain⟨q,e,rfl⟩:=Ğ.1 hp;exact oD a.perm (h.eqs.hZ q e).1
 obtain⟨q,e,rfl⟩:=Ğ.1 hp;exact oD a.perm (h.ε.hZ q e).1
def fi(k:Zb):Ŀ M->Zb×M->Zb×M
 |[],s=>s
 |π::l,s=>fi k l (if Op.bytesLess (ÿ (ý k π)).toList (ÿ s.1).toList=true then(ý k π,π)else s)
def â(k:Zb):Zb×M:=fi k (Β k.n.toNat).tail (ý k (λi=>(i.val:Int)),λi=>(i.val:Int))
theorem SA(k:Zb):∀(l:Ŀ M) (s:Zb×M) (π:M),fi k (l++[π]) s=(if Op.bytesLess (ÿ (ý k π)).toList (ÿ (fi k l s).1).toList=true then(ý k π,π)else fi k l s)
 |[],_,_=>rfl
 |x::l,s,π=>SA k l _ π
theorem LZ{k:Zb}(h:æ k):∀{l:Ŀ M}{s:Zb×M},(∀π∈l,gD k.n.toNat π)->æ s.1->æ (fi k l s).1
 |[],_,_,a=>a
 |π::l,s,c,a=>by
  unfold fi;refine LZ h (λx d=>c x (by simp[d])) ?_;split
  .exact (lP h (c π ß)).core
  exact a
theorem RJ(l:Ŀ Int):(bytesOf l).size=l.length:=by
 have key:∀(l:Ŀ Int) (b:Ĳ),(l.foldl (λr n=>r.push (UInt8.ofNat n.toNat)) b).size=b.size+l.length:=by
  intro l;induction l with
  |nil=>intro b;rfl
  |cons x l a=>intro b;rw[List.foldl_cons,a,ByteArray.size_push,ę];omega
 have:=key l ByteArray.empty;unfold bytesOf;rw[this];simp
theorem YM(k:Zb):ÿ k≠ByteArray.empty:=λe=>by
 have a:=RJ (gU k);have h2:(ÿ k).size=0:=by rw[e];rfl
 unfold ÿ at h2;rw[a]at h2;have:1<=(ls k.n).length:=by unfold ls fw iH;split<;>simp
 unfold gU at h2;simp only[Ā]at h2;omega
theorem RK{k:Zb}(h:æ k){π:M}(a:gD k.n.toNat π){s:Zb×M×Ĳ}:
  (r0 k π s).Α (if s.2.2=ByteArray.empty then(ý k π,π,ÿ (ý k π))else if Op.bytesLess (ÿ (ý k π)).toList s.2.2.toList=true then(ý k π,π,ÿ (ý k π))else s):=by
 have e:=h.eqs.len
 have f:=h.ε.len
 have hp:=lP h a
 refine⟨_,QG ŉ (λp hp=>(h.eqs.hZ p hp).1) a.perm,_,QG ŉ (λp hp=>(h.ε.hZ p hp).1) a.perm,(ý k π,0),?_,Cq.wp.no (λh=>h rfl) ⟨_,y4 hp.core,?_⟩⟩
 .rw[<-hp.norm]
  refine ZtB (by rw[ć];omega) (by rw[ć];omega) (λp hp=>?_) (λp hp=>?_)
  .obtain⟨q,d,rfl⟩:=Ğ.1 hp
   exact oD a.perm (h.eqs.hZ q d).1
  obtain⟨q,d,rfl⟩:=Ğ.1 hp
  exact oD a.perm (h.ε.hZ q d).1
 by_cases c:s.2.2=ByteArray.empty
 .rw[ą c];exact Cq.wp.yes c rfl
 rw[ā c]
 refine Cq.wp.no c ?_
 by_cases h2:Op.bytesLess (ÿ (ý k π)).toList s.2.2.toList=true
 .refine Cq.wp.yes h2 ?_
  show _=_
  rw[ą h2]
 refine Cq.wp.no h2 ?_
 show _=_
 rw[ā h2]
theorem Kh{k:Zb}(h:æ k):∀{l:Ŀ M}{c:Zb}{f:M},(∀π∈l,gD k.n.toNat π)->(nc k l (c,f,ÿ c)).Α ((fi k l (c,f)).1,(fi k l (c,f)).2,ÿ (fi k l (c,f)).1)
 |[],_,_,_=>rfl
 |π::l,c,f,a=>by
  refine⟨_,RK h (a π ß),?_⟩;dsimp only;rw[ā (YM c)];unfold fi;split
  .exact Kh h (λx d=>a x (by simp[d]))
  exact Kh h (λx d=>a x (by simp[d]))
theorem lQ{k:Zb}(h:æ k):∀π∈Β k.n.toNat,gD k.n.toNat π:=λ_ hp=>og (by have:=h.n;omega) hp
theorem SQ{k:Zb}(h:æ k):(El k).Α (â k):=by refine⟨h.n,((â k).1,(â k).2,ÿ (â k).1),?_,rfl⟩;have hp:=lQ h;rw[vj]at hp⊢;refine⟨_,RK h (hp _ ß),?_⟩;rw[ą rfl];exact Kh h (λx a=>hp x (by simp[a]))
theorem Zu6{k:Zb}(h:æ k):(K9 k).Α (â k):=by
 have hp:=lQ h;obtain⟨n,t,y,A⟩:=vw h.n;have c:k.n.toNat=n:=ŉ;have a:(Β n).length<=24:=by
  have e:n=1\/n=2\/n=3\/n=4:=ŉ;rcases e with rfl|rfl|rfl|rfl<;>decide +kernel
 unfold â;rw[c]at hp⊢;refine⟨Β n,by rw[t];exact Zv4 ⟨y,A⟩,?_⟩;rw[vj]at hp a⊢;generalize (Β n).tail=l at *;generalize q:(λi:Fin 8=>(i.val:Int))=ι at *;rw[ę]at a;refine⟨ι,⟨ĳ,rfl⟩,_,P7 h (by rw[c];exact hp ι ß),ι,⟨ĳ,rfl⟩,?_⟩;have u:æ (ý k ι):=(lP h (by rw[c];exact hp ι ß)).core;refine Cq.Zn l.length (λj s=>s=(((j+1:Nat):Int),(fi k (l.take j) (ý k ι,ι)).1,(fi k (l.take j) (ý k ι,ι)).2)) (λj s r ou=>?_) (λs ou=>?_) rfl
 .subst ou;have g:gD k.n.toNat l[j]:=by rw[c];exact hp _ ß
  have p:æ (fi k (l.take j) (ý k ι,ι)).1:=LZ h (λx v=>by rw[c];exact hp x (by simp[ś v])) u;have d:j+1<(ι::l).length:=by rw[ę];omega
  have e:(ι::l)[j+1]=l[j]:=rfl;refine Cq.wp.yes (by rw[ę];omega) ⟨_,Κ d,_,by rw[e];exact P7 h g,_,TE (lP h g).core,_,TE p,?_⟩;have m:i64.wrap (((j+1:Nat):Int)+1)=((j+1+1:Nat):Int):=ψ ŉ;rw[č r,SA];by_cases f:Op.bytesLess (ÿ (ý k l[j])).toList (ÿ (fi k (l.take j) (ý k ι,ι)).1).toList=true
  .rw[ą f];refine Cq.wp.yes f ⟨_,Κ d,?_⟩;show _=_;rw[m];rfl
  rw[ā f];refine Cq.wp.no f ?_;show _=_;rw[m]
 subst ou;refine Cq.wp.no (by rw[ę];omega) ?_;rw[ě (Ċ _)];rfl
end Go.EL

namespace Go.EL
open Go.IntKind (i8 i16 i32 i64 u8 u16 u32 u64)
open Go Go.RowKit
def kU{α:Type}(S:α->Prop)(w:α->Ŀ Int):Prop:=∀a b x y,S a->S b->w a++x=w b++y->w a=w b/\x=y
theorem kU.both{α:Type}{S:α->Prop}{f g:α->Ŀ Int}(j:kU S f)(k:kU S g):kU S λa=>f a++g a:=λa b x y c d h=>by have h:(f a++g a)++x=(f b++g b)++y:=h;show f a++g a=f b++g b/\_;rw[Đ,Đ]at h;obtain⟨e,h2⟩:=j a b _ _ c d h;obtain⟨h3,i⟩:=k a b _ _ c d h2;exact⟨by rw[e,h3],i⟩
theorem kU.of{α β:Type}{S:α->Prop}{T:β->Prop}{w:β->Ŀ Int}(h:kU T w)(g:α->β)(c:∀a,S a->T (g a)):kU S λa=>w (g a):=λa b x y d f e=>h _ _ x y (c a d) (c b f) e
theorem kU.len{α:Type}{S:α->Prop}{w:α->Ŀ Int}(k:Nat)(h:∀a,S a->(w a).length=k):kU S w:=λa b _ _ c d e=>List.append_inj e (by rw[h a c,h b d])
theorem HI(n:Int):u8.wrap n=n % 256:=rfl
theorem T0:∀(f:Nat) {n m:Int}{x y:Ŀ Int},(0<=n/\n<128*128 ^ f/\n<18446744073709551616)->(0<=m/\m<128*128 ^ f/\m<18446744073709551616)->iH f n++x=iH f m++y->n=m/\x=y
 |0,n,m,x,y,c,a,h=>by simp only[iH,ĸ,Ļ,ŏ,HI]at h;have:(128:Int)*128 ^ 0=128:=rfl;exact⟨ŉ,h.2⟩
 |f+1,n,m,x,y,c,a,h=>by
  have hp:(128:Int)*128 ^ (f+1)=128*(128*128 ^ f):=by rw[Int.pow_succ];omega
  have key:∀{z:Int},(0<=z/\z<128*128 ^ (f+1)/\z<18446744073709551616)->u64.wrap (Int.tdiv z 128)=z / 128/\Int.tmod z 128=z % 128:=λ{z} d=>by obtain⟨d0,d1⟩:=qu d.1;exact⟨by rw[d1];exact qD ⟨ŉ,ŉ⟩,œ d.1⟩
  obtain⟨i,j⟩:=key c;obtain⟨e,g⟩:=key a;unfold iH at h;rw[i,j,e,g]at h;simp only[HI]at h;split at h
  .split at h
   .simp only[ĸ,ŏ]at h;obtain⟨k,h2⟩:=T0 f (n:=n / 128) (m:=m / 128) ⟨ŉ,ŉ,ŉ⟩ ⟨ŉ,ŉ,ŉ⟩ h.2;exact⟨ŉ,h2⟩
   simp only[ĸ,Ļ,ŏ]at h;omega
  split at h
  .simp only[ĸ,Ļ,ŏ]at h;omega
  simp only[ĸ,Ļ,ŏ]at h;exact⟨ŉ,h.2⟩
theorem LL{n m:Int}{x y:Ŀ Int}(c:0<=n/\n<18446744073709551616)(a:0<=m/\m<18446744073709551616)(h:fw n++x=fw m++y):n=m/\x=y:=by have:(128:Int)*128 ^ 10=151115727451828646838272:=ĳ;exact T0 10 ⟨c.1,ŉ,c.2⟩ ⟨a.1,ŉ,a.2⟩ h
theorem pf(n:Int):0<=u64.wrap n/\u64.wrap n<18446744073709551616:=by rw[abr];omega
theorem Uu{α:Type}(S:α->Prop)(g:α->Int):kU S λa=>fw (u64.wrap (g a)):=λa b x y _ _ h=>by obtain⟨c,h2⟩:=LL (pf _) (pf _) h;exact⟨by show fw _=fw _;rw[c],h2⟩
theorem Ln{α:Type}{S:α->Prop}{w:α->Ŀ Int}(h:kU S w):∀{l m:Ŀ α}{x y:Ŀ Int},l.length=m.length->(∀a∈l,S a)->(∀a∈m,S a)->l.flatMap w++x=m.flatMap w++y->l.flatMap w=m.flatMap w/\x=y
 |[],[],_,_,_,_,_,e=>⟨rfl,e⟩
 |[],_::_,_,_,d,_,_,_=>by cases d
 |_::_,[],_,_,d,_,_,_=>by cases d
 |a::l,b::m,x,y,d,g,h2,e=>by rw[Ř,Ř,Đ,Đ]at e;obtain⟨i,j⟩:=h a b _ _ (g a ß) (h2 b ß) e;obtain⟨k,q4⟩:=Ln h (l:=l) (m:=m) (by simpa using d) (λc f=>g c (by simp[f])) (λc f=>h2 c (by simp[f])) j;exact⟨by rw[Ř,Ř,i,k],q4⟩
theorem TA{α:Type}{S:α->Prop}{w:α->Ŀ Int}(h:kU S w):kU (λl:Ŀ α=>l.length<=1000000/\∀a∈l,S a) λl=>fw (u64.wrap (l.length:Int))++l.flatMap w:=λl m x y d f e=>by have e:(fw (u64.wrap (l.length:Int))++l.flatMap w)++x=(fw (u64.wrap (m.length:Int))++m.flatMap w)++y:=e;show fw _++_=fw _++_/\_;rw[Đ,Đ]at e;obtain⟨c,h2⟩:=LL (pf _) (pf _) e;rw[xA d.1,xA f.1]at c;have c:l.length=m.length:=ŉ;obtain⟨h3,g⟩:=Ln h c d.2 f.2 h2;exact⟨by rw[c,h3],g⟩
theorem U4:kU (λa:Zg=>a.υ.length<=1000000) lq:=λa b x y j k e=>by
 unfold lq at e⊢;rw[Đ,Đ]at e;have g:∀c:Zg,c.υ.length<=1000000->(if c.neg=true then u64.wrap (u64.wrap (2*u64.wrap (c.υ.length:Int))+1)else u64.wrap (2*u64.wrap (c.υ.length:Int)))=2*(c.υ.length:Int)+if c.neg=true then 1 else 0:=λc l=>by rw[xA l,qD (x:=2*(c.υ.length:Int)) ⟨ŉ,ŉ⟩,qD (x:=2*(c.υ.length:Int)+1) ⟨ŉ,ŉ⟩];split<;>omega
 rw[g a j,g b k]at e⊢;obtain⟨f,h2⟩:=LL (by split<;>omega) (by split<;>omega) e;have h3:a.υ.length=b.υ.length:=by split at f<;>split at f<;>omega
 obtain⟨h,i⟩:=Ln (S:=λ_=>True) (kU.len 4 λd _=>Lb d) h3 (λ_ _=>trivial) (λ_ _=>trivial) h2;exact⟨by rw[f,h],i⟩
theorem Y1:kU (λa:Zf=>a.num.υ.length<=1000000/\a.den.υ.length<=1000000) mq:=kU.both (U4.of _ λa h=>h.1) (U4.of _ λa h=>h.2)
theorem U9(S:(Fin 8->Int)->Prop):∀k,kU S λm=>iG m k
 |0=>λ_ _ _ _ _ _ e=>⟨rfl,e⟩
 |k+1=>kU.both (U9 S k) (Uu S _)
theorem ZyS:kU (λt:Za=>t.c.num.υ.length<=1000000/\t.c.den.υ.length<=1000000) fU:=kU.both (Y1.of _ λa h=>h) ((U9 (λ_=>True) 8).of _ λa _=>trivial)
theorem ω.code{p:Ù}(h:ω p):p.length<=1000000/\∀t∈p,t.c.num.υ.length<=1000000/\t.c.den.υ.length<=1000000:=⟨by have:=h.len;omega,λt c=>by
 obtain⟨a,e,d,h2,h3⟩:=(h.th t c).c;have f:t.c.num.υ.length<=1/\t.c.den.υ.length<=1:=by
  have:(á (-12) 12 λa=>decide ((ü a).num.υ.length<=1/\(ü a).den.υ.length<=1))=true:=by decide +kernel
  rw[e];exact ĥ (Zq this (x:=a) ŉ ŉ)
 omega⟩
theorem Zyx:kU ω fE:=λa b x y c d e=>TA ZyS a b x y c.code d.code e
theorem Sk:kU (λl:Ŀ Ù=>l.length<=1000000/\∀p∈l,ω p) fS:=TA Zyx
theorem æ.code{k:Zb}(h:æ k):(k.eqs.length<=1000000/\∀p∈k.eqs,ω p)/\k.ε.length<=1000000/\∀p∈k.ε,ω p:=
 ⟨⟨by have:=h.eqs.len;omega,λp hp=>(h.eqs.hZ p hp).1⟩,by have:=h.ε.len;omega,λp hp=>(h.ε.hZ p hp).1⟩
theorem Zx7:kU æ gU:=kU.both (kU.both (Uu _ _) (Sk.of _ λa h=>h.code.1)) (Sk.of _ λa h=>h.code.2)
def l6(l:Ŀ Int):Prop:=∀n∈l,0<=n/\n<256
theorem l6.append{a b:Ŀ Int}(h:l6 a)(k:l6 b):l6 (a++b):=λn c=>(Ĩ.1 c).elim (h n) (k n)
theorem HH(n:Int):0<=u8.wrap n/\u8.wrap n<256:=by rw[HI];omega
theorem tV:∀(f:Nat) (n:Int),l6 (iH f n)
 |0,n=>λm a=>by rw[Ē.1 a];exact HH _
 |f+1,n=>λm a=>by
  unfold iH at a;split at a
  .rcases Ď.1 a with rfl|a
   .exact HH _
   exact tV f _ m a
  rw[Ē.1 a];exact HH _
theorem FP{α:Type}{w:α->Ŀ Int}(h:∀a,l6 (w a))(l:Ŀ α):l6 (l.flatMap w):=λn c=>by obtain⟨a,_,h2⟩:=List.mem_flatMap.1 c;exact h a n h2
theorem ZxK(d:Int):l6 (fF d):=λn a=>by
 simp only[fF,Ď,ĝ,Ť]at a;rcases a with rfl|rfl|rfl|rfl<;>exact HH _
theorem Tw(a:Zg):l6 (lq a):=(tV _ _).append (FP ZxK _)
theorem TY(m:Fin 8->Int):∀k,l6 (iG m k)
 |0=>λ_ h=>by cases h
 |k+1=>(TY m k).append (tV _ _)
theorem ZxC(t:Za):l6 (fU t):=((Tw _).append (Tw _)).append (TY _ 8)
theorem Sj(p:Ù):l6 (fE p):=(tV _ _).append (FP ZxC _)
theorem R1(l:Ŀ Ù):l6 (fS l):=(tV _ _).append (FP Sj _)
theorem SH(k:Zb):l6 (gU k):=((tV _ _).append (R1 _)).append (R1 _)
theorem Zvh(l:Ŀ Int):∀r:Ĳ,(l.foldl (λr n=>r.push (UInt8.ofNat n.toNat)) r).data.toList=r.data.toList++l.map λn=>UInt8.ofNat n.toNat:=by
 induction l with
 |nil=>intro r;simp
 |cons n l a=>
  intro r;rw[List.foldl_cons,a];simp[ByteArray.push]
theorem AB(l:Ŀ Int):(bytesOf l).data.toList=l.map λn=>UInt8.ofNat n.toNat:=by unfold bytesOf;rw[Zvh];rfl
theorem Ul:∀{l m:Ŀ Int},l6 l->l6 m->(l.map λn=>UInt8.ofNat n.toNat)=(m.map λn=>UInt8.ofNat n.toNat)->l=m
 |[],[],_,_,_=>rfl
 |[],_::_,_,_,h=>by cases h
 |_::_,[],_,_,h=>by cases h
 |a::l,b::m,d,h2,h=>by rw[Ġ,Ġ,ŏ]at h;have e:=đ UInt8.toNat h.1;rw[UInt8.toNat_ofNat',UInt8.toNat_ofNat']at e;have f:=d a ß;have k2:=h2 b ß;rw[Ul (λn c=>d n (by simp[c])) (λn c=>h2 n (by simp[c])) h.2];congr 1;omega
theorem ZtF{l m:Ŀ Int}(a:l6 l)(h2:l6 m)(h:bytesOf l=bytesOf m):l=m:=by refine Ul a h2 ?_;rw[<-AB,<-AB,h]
theorem Zwg{a b:Ĳ}(h:a.data.toList=b.data.toList):a=b:=by cases a;cases b;have h:=ż h;dsimp only at h;rw[h]
theorem Jx(l m:Ŀ Int):bytesOf l++bytesOf m=bytesOf (l++m):=by refine Zwg ?_;rw[AB,ĩ,<-AB,<-AB];simp
end Go.EL

namespace Go.EL
open Go.IntKind (i8 i16 i32 i64 u8 u16 u32 u64)
open Go Go.RowKit
def C0(p:Ù):Bool:=decide (p.Pairwise λx y=>0<Û x.m y.m)&&p.all (λt=>fk t.c&&decide (∀i,0<=t.m i/\t.m i<=65535))&&decide (p.length<=100)
theorem ω.of{p:Ù}(h:C0 p=true):ω p:=by unfold C0 at h;simp only[Ĉ,Ě,Ć]at h;obtain⟨⟨c,h2⟩,h3⟩:=h;refine⟨c,λt a=>⟨?_,(h2 t a).2⟩,h3⟩;obtain⟨n,e,d,f,g⟩:=tU (h2 t a).1;exact⟨n,e,d,f,g⟩
end Go.EL

namespace Go.EL
open Go.IntKind (i8 i16 i32 i64 u8 u16 u32 u64)
open Go Go.RowKit
theorem Mg{c:Cq Bool}{P:Prop}(h:c.wp λb=>(b=true↔P)):(P/\c.Α true)\/(¬P/\c.Α false):=by
 by_cases hp:P
 .exact .inl ⟨hp,c.mono (λb a=>a.2 hp) h⟩
 exact .inr ⟨hp,c.mono (λb a=>by cases b with
  |true=>exact absurd (a.1 rfl) hp
  |false=>rfl) h⟩
structure u4 (n:Nat) (next:Int) (l:Ŀ Zo) (k:Nat):Prop where
 ids:∀i (h:i<l.length),i<k->1<=l[i].id/\l[i].id<next
 inc:∀i (h:i+1<l.length),i+1<k->l[i].id<l[i+1].id
 hZ:∀i (h:i<l.length),i<k->ω l[i].p/\Ð l[i].p (n:Int)=true
theorem u4.zero(n:Nat)(next:Int)(l:Ŀ Zo):u4 n next l 0:=⟨λ_ _ h=>absurd h (ı _),λ_ _ h=>absurd h (ı _),λ_ _ h=>absurd h (ı _)⟩
end Go.EL

namespace Go.EL
open Go.IntKind (i8 i16 i32 i64 u8 u16 u32 u64)
open Go Go.RowKit
end Go.EL

namespace Go.EL
open Go.IntKind (i8 i16 i32 i64 u8 u16 u32 u64)
open Go Go.RowKit
theorem Uv(n:Nat)(next:Int):ig n next []:=⟨ß,λq a=>absurd a ĝ,List.Pairwise.nil,λq a=>absurd a ĝ⟩
end Go.EL

namespace Go.EL
open Go.IntKind (i8 i16 i32 i64 u8 u16 u32 u64)
open Go Go.RowKit
structure ij (x:ZA):Prop where
 n:0<=x.n/\x.n<=255
 l:∀y∈x.l,iZ y
 iR:∀g∈x.iR,0<=g/\g<=255
theorem LJ{y:Zu}(h:iZ y){n:Nat}(e:n<=4){d:Int}(d0:0<=d)(d12:d<=12){k:Nat}(f:k<=4):ω (iF y n d k)/\Ð (iF y n d k) (n:Int)=true:=by
 have a:=Zyl h e d0 k;refine⟨a.hZ ŉ ŉ ŉ,(pz ŉ).2 ⟨λt c i hi=>?_,λt c=>?_⟩⟩
 .have:=(a.xW t c).2.1 i hi;omega
 have:=(a.xW t c).2.2;omega
theorem ig.XL{n:Nat}{next a:Int}{l:Ŀ Zo}(h:ig n next l)(h2:next<=a):ig n a l:=⟨h.len,λq c=>⟨(h.ids q c).1,ő (h.ids q c).2 h2⟩,h.inc,h.hZ⟩
theorem ig.snoc{n:Nat}{next:Int}{l:Ŀ Zo}(h:ig n next l)(g:l.length<12){i:Int}{p:Ù}(hp:ω p/\Ð p (n:Int)=true)(f:1<=next)(hi:next<=i):ig n (i+1) (l++[⟨i,p⟩]) where
 len:=by rw[Ā,ė];omega
 ids:=λq c=>by
  rcases Ĩ.1 c with c|c
  .have:=h.ids q c;omega
  rw[Ē]at c;subst c;show 1<=i/\i<i+1;omega
 inc:=by rw[ek];refine⟨h.inc,ũ _ _,λa e b d=>?_⟩;rw[Ē]at d;subst d;have:=h.ids a e;show a.id<i;omega
 hZ:=λq c=>by
  rcases Ĩ.1 c with c|c
  .exact h.hZ q c
  rw[Ē]at c;subst c;exact hp
def eJ(x:ZA)(k:Nat):Int:=if 0<x.iR.length then Int.tmod (x.iR.getD (k % x.iR.length) 0) 4 else 0
def ñ(x:ZA)(n:Nat):Nat->Ŀ Zo×Ŀ Zo×Int
 |0=>([],[],1)
 |k+1=>
  if k % 3=2 then((ñ x n k).1,(ñ x n k).2.1++[⟨(ñ x n k).2.2+eJ x k,iF (x.l.getD k ⟨[]⟩) n 2 3⟩],(ñ x n k).2.2+eJ x k+1)
  else((ñ x n k).1++[⟨(ñ x n k).2.2+eJ x k,iF (x.l.getD k ⟨[]⟩) n 2 3⟩],(ñ x n k).2.1,(ñ x n k).2.2+eJ x k+1)
theorem ZtL(x:ZA)(n k:Nat):ñ x n (k+1) =
  if k % 3=2 then((ñ x n k).1,(ñ x n k).2.1++[⟨(ñ x n k).2.2+eJ x k,iF (x.l.getD k ⟨[]⟩) n 2 3⟩],(ñ x n k).2.2+eJ x k+1)
  else((ñ x n k).1++[⟨(ñ x n k).2.2+eJ x k,iF (x.l.getD k ⟨[]⟩) n 2 3⟩],(ñ x n k).2.1,(ñ x n k).2.2+eJ x k+1):=rfl
theorem Vv{x:ZA}(h:ij x)(k:Nat):0<=eJ x k/\eJ x k<=3:=by
 unfold eJ;split
 .rename_i hp;have a:k % x.iR.length<x.iR.length:=x6 _ hp;have c:=h.iR (x.iR[k % x.iR.length]) (Ă a);rw[Ģ,Ą a,ŗ];have:=Bf c.1 (show(0:Int)<4 by decide);omega
 omega
structure zX (n:Nat) (k:Nat) (s:Ŀ Zo×Ŀ Zo×Int):Prop where
 next:1<=s.2.2/\s.2.2<=1+4*k
 eqs:ig n s.2.2 s.1
 ε:ig n s.2.2 s.2.1
 apart:∀a∈s.1,∀b∈s.2.1,a.id≠b.id
 len:s.1.length+s.2.1.length<=k
theorem ZyG{x:ZA}(h:ij x)(k:Nat):iZ (x.l.getD k ⟨[]⟩):=by
 rw[Ģ];cases a:x.l[k]? with
 |none=>exact λv c=>by cases c
 |some y=>exact h.l y (Ņ a)
theorem KN{x:ZA}(h:ij x){n:Nat}(j:n<=4):∀k,k<=6->zX n k (ñ x n k)
 |0,_=>⟨⟨Ŝ 1,(by decide:(1:Int)<=1+4*0)⟩,Uv _ _,Uv _ _,λa c=>absurd c ĝ,Ċ 0⟩
 |k+1,q=>by
  have f:=KN h j k ŉ;obtain⟨m,p⟩:=Vv h k;have hp:=LJ (ZyG h k) j (d:=2) ĳ ĳ (k:=3) ĳ;have l:=f.next;have r:=f.len;unfold ñ;generalize ñ x n k=s at *;obtain⟨e,i,nx⟩:=s;dsimp only at *;by_cases h3:k % 3=2
  .rw[ą h3];refine⟨⟨by show 1<=nx+eJ x k+1;omega,by show nx+eJ x k+1<=_;omega⟩,f.eqs.XL (by show nx<=nx+eJ x k+1;omega),f.ε.snoc (by show i.length<12;omega) hp (by show 1<=nx;omega) (by show nx<=nx+eJ x k;omega),λa c b g=>?_,by show e.length+(i++[_]).length<=k+1;rw[Ā,ė];omega⟩;rcases Ĩ.1 g with g|g
   .exact f.apart a c b g
   rw[Ē]at g;subst g;have:=(f.eqs.ids a c).2;show a.id≠nx+eJ x k;dsimp only at this;omega
  rw[ā h3];refine⟨⟨by show 1<=nx+eJ x k+1;omega,by show nx+eJ x k+1<=_;omega⟩,f.eqs.snoc (by show e.length<12;omega) hp (by show 1<=nx;omega) (by show nx<=nx+eJ x k;omega),f.ε.XL (by show nx<=nx+eJ x k+1;omega),λa c b g=>?_,by show(e++[_]).length+i.length<=k+1;rw[Ā,ė];omega⟩;rcases Ĩ.1 c with c|c
  .exact f.apart a c b g
  rw[Ē]at c;subst c;have:=(f.ε.ids b g).2;show nx+eJ x k≠b.id;dsimp only at this;omega
def gh:Ŀ Ĳ:=[Au,As,Ar]
theorem ZvC:(gh.all je&&decide (gh.Pairwise λa b=>a≠b))=true:=by decide +kernel
def jl(x:ZA):Nat:=x.n.toNat % 4
def iV(x:ZA):Zx:=⟨gh.take (jl x),(ñ x (jl x) (min x.l.length 6)).1,(ñ x (jl x) (min x.l.length 6)).2.1,(ñ x (jl x) (min x.l.length 6)).2.2⟩
theorem Bi(x:ZA):jl x<4:=x6 _ ĳ
theorem Fh(x:ZA):(gh.take (jl x)).length=jl x:=by have:=Bi x;rw[Č];show min _ 3=_;omega
theorem Zvy{x:ZA}(h:ij x):Good (iV x)/\(iV x).eqs.length+(iV x).ε.length<=6:=by
 have f:=Bi x;have hi:=KN h (n:=jl x) ŉ (min x.l.length 6) ŉ;have a:=ZvC;simp only[Ĉ,Ć,Ě]at a;have e:=hi.len;have d:=hi.next;refine⟨⟨by show(gh.take _).length<=4;rw[Fh];omega,λv c=>a.1 v (ś c),a.2.sublist (List.take_sublist _ _),⟨d.1,?_⟩,?_,?_,hi.apart⟩,?_⟩
 .show (ñ x (jl x) (min x.l.length 6)).2.2<=1000000;omega
 .show ig (gh.take _).length _ _;rw[Fh];exact hi.eqs
 .show ig (gh.take _).length _ _;rw[Fh];exact hi.ε
 show(ñ x (jl x) (min x.l.length 6)).1.length+(ñ x (jl x) (min x.l.length 6)).2.1.length<=6;omega
theorem tg{x:ZA}(h:ij x):i64.wrap (Int.tmod x.n 4)=((jl x:Nat):Int):=by
 obtain⟨a,c⟩:=h.n;have e:Int.tmod x.n 4=((jl x:Nat):Int):=by rw[œ a];unfold jl;omega
 have:=Bi x;rw[e,wrap64 ŉ]
theorem ZuU{x:ZA}(h:ij x):(FI x).Α (iV x):=by
 have C:=Bi x;unfold FI;rw[tg h];refine⟨⟨Ŝ 0,ŉ,by show((jl x:Nat):Int)<=3;omega⟩,?_⟩;have g:∀s:Ŀ Zo×Ŀ Zo×Int,s=ñ x (jl x) (min x.l.length 6)->(J3 ((gh.take ((jl x:Nat):Int).toNat).drop (0:Int).toNat) s.1 s.2.1 s.2.2).Α (iV x):=λs m=>by subst m;show _=_;rw[Ĕ];rfl
 refine Cq.Zn (min x.l.length 6) (λk s=>s=((k:Int),(gh.take ((jl x:Nat):Int).toNat).drop (0:Int).toNat,(ñ x (jl x) k).1,(ñ x (jl x) k).2.1,(ñ x (jl x) k).2.2)) (λk s B m=>?_) (λs m=>?_) rfl
 .subst m;have hi:=KN h (n:=jl x) ŉ k ŉ;have i:k<x.l.length:=ŉ;have D:=hi.next;have v:=hi.len;obtain⟨y,A⟩:=Vv h k;refine Cq.wp.yes ŉ (Cq.wp.yes ŉ ?_);have key:(Ez x (k:Int) ((gh.take ((jl x:Nat):Int).toNat).drop (0:Int).toNat) (ñ x (jl x) k).1 (ñ x (jl x) k).2.1 (ñ x (jl x) k).2.2 (eJ x k)).wp (Out (λs=>s=(((k+1:Nat):Int),(gh.take ((jl x:Nat):Int).toNat).drop (0:Int).toNat,(ñ x (jl x) (k+1)).1,(ñ x (jl x) (k+1)).2.1,(ñ x (jl x) (k+1)).2.2)) λo=>(match o with|(e,f,c,d)=>J3 e f c d).wp λa=>a=iV x):=by
   refine⟨_,Κ i,iF x.l[k] (jl x) 2 3,?_,?_⟩
   .rw[tg h];exact Ls (h.l _ (Ă i)) ŉ ĳ ĳ (k:=3) ĳ
   have t:x.l.getD k ⟨[]⟩=x.l[k]:=by rw[Ģ,Ą i];rfl
   have u:i64.wrap ((ñ x (jl x) k).2.2+eJ x k)=(ñ x (jl x) k).2.2+eJ x k:=wrap64 ŉ;have j:i64.wrap ((ñ x (jl x) k).2.2+eJ x k+1)=(ñ x (jl x) k).2.2+eJ x k+1:=wrap64 ŉ;have p:Int.tmod (k:Int) 3=((k % 3:Nat):Int):=by rw[œ ŉ];omega
   rw[ZtL];by_cases h3:k % 3=2
   .rw[ą h3];refine Cq.wp.yes (by rw[p];omega) ⟨?_,?_⟩
    .rw[Ā,ė];simp only[small];omega
    show _=_;rw[ψ ŉ,u,j,t]
   rw[ā h3];refine Cq.wp.no (by rw[p];omega) ⟨?_,?_⟩
   .rw[Ā,ė];simp only[small];omega
   show _=_;rw[ψ ŉ,u,j,t]
  show(EA x (k:Int) _ _ _ _).wp _;unfold EA;by_cases r:0<x.iR.length
  .have l:k % x.iR.length<x.iR.length:=x6 _ r;have p:Int.tmod (k:Int) (x.iR.length:Int)=((k % x.iR.length:Nat):Int):=by rw[œ ŉ];rfl
   refine Cq.wp.yes ŉ ⟨ŉ,?_⟩;rw[p];refine⟨_,Κ l,?_⟩;have q:eJ x k=Int.tmod x.iR[k % x.iR.length] 4:=by unfold eJ;rw[ą r,Ģ,Ą l,ŗ]
   dsimp only;rw[<-q,wrap64 ŉ];exact key
  have q:eJ x k=0:=ā r;refine Cq.wp.no ŉ ?_;rw[q]at key;exact key
 subst m;by_cases v:x.l.length<=6
 .refine Cq.wp.no ŉ ?_;exact g _ rfl
 refine Cq.wp.yes ŉ (Cq.wp.no ŉ ?_);exact g _ rfl
end Go.EL

namespace Go.EL
open Go.IntKind (i8 i16 i32 i64 u8 u16 u32 u64)
open Go Go.RowKit
structure jq (k:Zb):Prop where
 n:0<=k.n/\k.n<=1000
 eqs:∀p∈k.eqs,ω p
 ε:∀p∈k.ε,ω p
 len:k.eqs.length<=12/\k.ε.length<=12
theorem jq.zero:jq iK:=⟨ĳ,λp hp=>absurd hp ĝ,λp hp=>absurd hp ĝ,ĳ⟩
theorem æ.qV{k:Zb}(h:æ k):jq k:=⟨by have:=h.n;omega,λp hp=>(h.eqs.hZ p hp).1,λp hp=>(h.ε.hZ p hp).1,h.eqs.len,h.ε.len⟩
theorem jq.core{k:Zb}(h:jq k):(vk [] k).Α (gU k):=SX h.n h.eqs h.ε h.len.1 h.len.2
theorem ZvD{n:Int}{eqs ε:Ŀ Ù}(f:∀p∈eqs,ω p)(hi:∀p∈ε,ω p):jq (im n eqs ε).1/\((im n eqs ε).2=0->æ (im n eqs ε).1):=by
 unfold im;by_cases c:1<=n/\n<=4
 .rw[ą c];by_cases a:(eqs++ε).all (λp=>Ð p n)=true
  .rw[ą a];by_cases d:12<(ef (hN eqs ε)).length
   .rw[ą d];exact⟨jq.zero,λh=>absurd h ĳ⟩
   rw[ā d];by_cases h2:12<(ef (kept ε true)).length
   .rw[ą h2];exact⟨jq.zero,λh=>absurd h ĳ⟩
   rw[ā h2];obtain⟨m,rfl,g,i⟩:=vw c;rw[List.all_append,Ĉ]at a;have e:=UL ⟨g,i⟩ (λp hp=>⟨f p hp,Ć.1 a.1 p hp⟩) (λp hp=>⟨hi p hp,Ć.1 a.2 p hp⟩) ŉ ŉ;exact⟨e.qV,λ_=>e⟩
  rw[ā a];exact⟨jq.zero,λh=>absurd h ĳ⟩
 rw[ā c];exact⟨jq.zero,λh=>absurd h ĳ⟩
theorem SR{l:Ŀ Zo}(d:l.length<=1000):(E7 l).Α (l.map (·.p)):=by
 refine Cq.Zn l.length (λk s=>s=((l.take k).map (·.p),(k:Int))) (λk s c a=>?_) (λs a=>?_) rfl
 .subst a;refine Cq.wp.yes ŉ ⟨_,Κ c,?_,?_⟩
  .simp only[Ā,ć,Č,ė,small];omega
  show _=_;rw[ψ ŉ,č c,ĩ];rfl
 subst a;refine Cq.wp.no ŉ ?_;rw[ě (Ċ _)];exact rfl
def ph(s:Zx):Int:=if 1<(s.vars.length:Int)then(s.vars.length:Int)else 1
def mS(s:Zx):Zb×Int:=im (ph s) (s.eqs.map (·.p)) (s.ε.map (·.p))
theorem Good.wc{s:Zx}(h:Good s):(∀p∈s.eqs.map (·.p),ω p)/\∀p∈s.ε.map (·.p),ω p:=
 ⟨λp hp=>by obtain⟨q,a,rfl⟩:=Ğ.1 hp;exact(h.eqs.hZ q a).1,λp hp=>by obtain⟨q,a,rfl⟩:=Ğ.1 hp;exact(h.ε.hZ q a).1⟩
theorem Zu7{s:Zx}(h:Good s):(Lw s).Α (mS s):=by have a:=h.eqs.len;have c:=h.ε.len;obtain⟨p1,p2⟩:=h.wc;exact⟨true,ZpE h,Cq.wp.no ĳ ⟨_,SR ŉ,_,SR ŉ,_,Q5 (by rw[ć];omega) (by rw[ć];omega) p1 p2,rfl⟩⟩
theorem Vu{p:Ù}{n m:Nat}(e:n<=m)(c:m<=8)(h:Ð p (n:Int)=true):Ð p (m:Int)=true:=by obtain⟨a,h2⟩:=(pz ŉ).1 h;exact(pz c).2 ⟨λt d i hi=>a t d i ŉ,h2⟩
theorem Zx6{s:Zx}(h:Good s)(i:s.eqs.length+s.ε.length<=12):mS s=(⟨ph s,ef (hN (s.eqs.map (·.p)) (s.ε.map (·.p))),ef (kept (s.ε.map (·.p)) true)⟩,0)/\æ (mS s).1:=by
 have j:=h.vars;obtain⟨m,f,k,l,mv⟩:∃m:Nat,ph s=(m:Int)/\1<=m/\m<=4/\s.vars.length<=m:=by
  unfold ph;by_cases c:1<(s.vars.length:Int)
  .rw[ą c];exact⟨_,rfl,ŉ,ŉ,Ċ _⟩
  rw[ā c];exact⟨1,rfl,ŉ,ŉ,ŉ⟩
 have d:(s.eqs.map (·.p)++s.ε.map (·.p)).all (λp=>Ð p (m:Int))=true:=Ć.2 λp hp=>by
  rcases Ĩ.1 hp with hp|hp
  .obtain⟨q,a,rfl⟩:=Ğ.1 hp;exact Vu mv ŉ (h.eqs.hZ q a).2
  obtain⟨q,a,rfl⟩:=Ğ.1 hp;exact Vu mv ŉ (h.ε.hZ q a).2
 have n:=Gb (hN (s.eqs.map (·.p)) (s.ε.map (·.p)));have g:=Tl (s.eqs.map (·.p)) (s.ε.map (·.p));have r:=Gb (kept (s.ε.map (·.p)) true);have q4:=vn (s.ε.map (·.p)) true;rw[ć,ć]at g;rw[ć]at q4;have e:mS s=(⟨ph s,ef (hN (s.eqs.map (·.p)) (s.ε.map (·.p))),ef (kept (s.ε.map (·.p)) true)⟩,0):=by unfold mS im;rw[f,ą ⟨ŉ,ŉ⟩,ą d,ā ŉ,ā ŉ]
 obtain⟨p1,p2⟩:=h.wc;exact⟨e,(ZvD p1 p2).2 (by show(mS s).2=0;rw[e])⟩
theorem Zz7{n:Nat}(h:1<=n/\n<=4):gD n λi=>(i.val:Int):=og h (by rw[vj];exact aan)
theorem Zvi{k:Zb}(h:æ k):æ (â k).1:=by
 have hp:=lQ h;have c:1<=k.n.toNat/\k.n.toNat<=4:=by have:=h.n;omega
 unfold â;rw[vj]at hp;exact LZ h (λx a=>hp x (by simp[a])) (lP h (hp _ ß)).core
end Go.EL

namespace Go.EL
open Go.IntKind (i8 i16 i32 i64 u8 u16 u32 u64)
open Go Go.RowKit
abbrev Ord:=Ŀ (Fin 8->Int)
theorem T1{n:Int}(h:n<0):kv n=fw (u64.wrap (u64.wrap (2*u64.wrap (i64.wrap (0-i64.wrap (n+1))))+1)):=ā ŉ
theorem T2{n:Int}(h:¬n<0):kv n=ls n:=ą ŉ
theorem Q6{b:Ŀ Int}(n:Int)(a:b.length<=900000):(Ay b n).Α (b++kv n):=by
 by_cases h:n<0
 .refine Cq.wp.yes h ⟨_,vm (pf _) a,?_⟩;show _=_;rw[T1 h,aaC]
 refine Cq.wp.no h ⟨_,vm (pf _) a,?_⟩;show _=_;rw[T2 h,aaC];rfl
theorem LN(n:Int):(kv n).length<=11:=by
 by_cases h:n<0
 .rw[T1 h];exact q0 _
 rw[T2 h];exact FT _
theorem FW(m:Fin 8->Int):∀k,(fW m k).length<=11*k
 |0=>Ċ _
 |k+1=>by have a:=FW m k;have h2:=LN (Ε m (k:Int));show(fW m k++kv _).length<=_;rw[Ā];omega
theorem Zu9{b:Ŀ Int}{o:Ord}(q:o.length<=40)(n:b.length<=600000):(K7 b o).Α (b++jy o):=by
 refine⟨_,vm (pf _) ŉ,?_⟩;unfold jy;have r:=q0 (u64.wrap (o.length:Int));generalize fw (u64.wrap (o.length:Int))=N at *;show(Cq.next _ _).wp _;refine Cq.Zn o.length (λk st=>st=(b++N++(o.take k).flatMap λm=>fW m 8,(k:Int))) (λk st d a=>?_) (λst a=>?_) (by show _=_;simp)
 .subst a;have g:=tT (K:=88) (l:=o.take k) (f:=λm=>fW m 8) (λx _=>FW x 8);rw[Č]at g;have h:88*min k o.length<=3520:=ŉ;refine Cq.wp.yes ŉ ?_;show(Cq.next _ _).wp _;generalize c:(b++N++(o.take k).flatMap λm=>fW m 8)=B;have e:B.length<=650000:=by rw[<-c];simp only[Ā];omega
  refine Cq.Zn 8 (λj st=>st=(B++fW o[k] j,(j:Int))) (λj st p a=>?_) (λst a=>?_) (by show _=_;simp[fW])
  .subst a;have i:=FW o[k] j;refine Cq.wp.yes ŉ ⟨_,Κ d,⟨ŉ,ŉ⟩,_,Q6 _ (by rw[Ā];omega),?_⟩;show _=_;rw[ψ ŉ,Đ];rfl
  subst a;refine Cq.wp.no ĳ ?_;show _=_;rw[ψ ŉ,Fe (λm=>fW m 8) o d,<-c];simp only[Đ]
 subst a;refine Cq.wp.no ŉ ?_;rw[ě (Ċ _)];show _=_;rw[Đ]
structure rG (q:Zc):Prop where
 p:ω q.p
 o:q.o.length<=40
theorem ZvF{o:Ord}(h:o.length<=40):(jy o).length<=4000:=by unfold jy;have a:=q0 (u64.wrap (o.length:Int));have h2:=tT (K:=88) (l:=o) (f:=λm=>fW m 8) (λx _=>FW x 8);rw[Ā];have h3:88*o.length<=3520:=ŉ;omega
theorem LA{q:Zc}(h:rG q):(oI q).length<=20000:=by unfold oI;have a:=LN q.kind;have h2:=Fi h.p;have h3:=ZvF h.o;rw[Ā,Ā];omega
def hL(q:Zc):Ĳ:=bytesOf (oI q)
theorem TC{q:Zc}(h:rG q):(F3 q).Α (hL q):=by have a:=LN q.kind;have h2:=Fi h.p;exact⟨_,Q6 (b:=[]) q.kind ĳ,_,Sp h.p (by rw[Ļ];omega),_,Zu9 h.o (by rw[Ļ,Ā];omega),rfl⟩
theorem L7{q:Zc}(h:rG q):(AP q).Α (hL q):=⟨by have:=LA h;omega,rfl⟩
theorem Sr{a b:Zc}(c:rG a)(d:rG b):(DW a b).Α (decide (hL a=hL b)):=⟨_,TC c,_,TC d,rfl⟩
theorem KU{a b:Zb}(c:jq a)(d:jq b):(Ap a b).Α (decide (ÿ a=ÿ b)):=⟨_,c.core,_,d.core,rfl⟩
theorem Ue(m:Fin 8->Int):∀k,l6 (fW m k)
 |0=>λ_ h=>by cases h
 |k+1=>(Ue m k).append (by unfold kv;split<;>exact tV _ _)
theorem Zyo(n:Int):l6 (kv n):=by unfold kv;split<;>exact tV _ _
theorem TI(q:Zc):l6 (oI q):=((Zyo _).append (Sj _)).append ((tV _ _).append (FP (λm=>Ue m 8) _))
def gV(k:Zb)(q:Zc):Ĳ:=ÿ k++hL q
theorem Vw{k m:Zb}{p q:Zc}(c:æ k)(d:æ m)(h:gV k p=gV m q):ÿ k=ÿ m/\hL p=hL q:=by unfold gV ÿ hL at h;rw[Jx,Jx]at h;obtain⟨a,h2⟩:=Zx7 k m _ _ c d (ZtF ((SH k).append (TI p)) ((SH m).append (TI q)) h);exact⟨by unfold ÿ;rw[a],by unfold hL;rw[h2]⟩
theorem JG(l:Ŀ Int):(bytesOf l).size=l.length:=RJ l
theorem Tg{k:Zb}(h:æ k):(gU k).length<=400000:=by have a:=AE (λp hp=>(h.eqs.hZ p hp).1) h.eqs.len;have h2:=AE (λp hp=>(h.ε.hZ p hp).1) h.ε.len;have h3:=q0 (u64.wrap (2*u64.wrap k.n));have c:=FT k.n;unfold gU;simp only[Ā];omega
theorem yZ{k:Zb}{q:Zc}(a:æ k)(c:rG q):(tA k q).Α (gV k q):=by have d:=Tg a;have h2:=LA c;exact⟨_,y4 a,_,L7 c,by unfold ÿ hL;rw[JG,JG];omega,rfl⟩
theorem yU{k:Zb}{q:Zc}(a:æ k)(c:rG q):(gV k q).size<=1000000:=by have d:=Tg a;have h2:=LA c;unfold gV ÿ hL;rw[Jx,JG,Ā];omega
def ò(kind:Int):Ŀ Zc:=if kind=5\/kind=8 then[⟨4,[],[]⟩]else if kind=6\/kind=10 then[⟨5,[],[]⟩]else if kind=7 then[⟨6,[],[]⟩]else[]
theorem AI(q:Zc):(yC q).Α (ò q.kind)/\(Fx q).Α (ò q.kind):=by
 unfold ò;by_cases a:q.kind=5
 .rw[ą (Or.inl a)];exact⟨Cq.wp.yes a (Cq.wp.yes (ă a) rfl),Cq.wp.yes a (Cq.wp.yes (ă a) rfl)⟩
 by_cases g:q.kind=8
 .rw[ą (Or.inr g)];exact⟨Cq.wp.no a (Cq.wp.yes (ă g) rfl),Cq.wp.no a (Cq.wp.yes (ă g) rfl)⟩
 rw[ā ŉ];have f:¬(decide (q.kind=8))=true:=by simpa using g
 by_cases c:q.kind=6
 .rw[ą (Or.inl c)];exact⟨Cq.wp.no a (Cq.wp.no f (Cq.wp.yes c (Cq.wp.yes (ă c) rfl))),Cq.wp.no a (Cq.wp.no f (Cq.wp.yes c (Cq.wp.yes (ă c) rfl)))⟩
 by_cases e:q.kind=10
 .rw[ą (Or.inr e)];exact⟨Cq.wp.no a (Cq.wp.no f (Cq.wp.no c (Cq.wp.yes (ă e) rfl))),Cq.wp.no a (Cq.wp.no f (Cq.wp.no c (Cq.wp.yes (ă e) rfl)))⟩
 rw[ā ŉ];have d:¬(decide (q.kind=10))=true:=by simpa using e
 by_cases h7:q.kind=7
 .rw[ą h7];exact⟨Cq.wp.no a (Cq.wp.no f (Cq.wp.no c (Cq.wp.no d (Cq.wp.yes h7 rfl)))),Cq.wp.no a (Cq.wp.no f (Cq.wp.no c (Cq.wp.no d (Cq.wp.yes h7 rfl))))⟩
 rw[ā h7];exact⟨Cq.wp.no a (Cq.wp.no f (Cq.wp.no c (Cq.wp.no d (Cq.wp.no h7 rfl)))),Cq.wp.no a (Cq.wp.no f (Cq.wp.no c (Cq.wp.no d (Cq.wp.no h7 rfl))))⟩
end Go.EL

namespace Go.EL
open Go.IntKind (i8 i16 i32 i64 u8 u16 u32 u64)
open Go Go.RowKit
theorem KH:∀{a b c:Ŀ UInt8},Op.bytesLess a b=true->Op.bytesLess b c=true->Op.bytesLess a c=true
 |[],_::_,_::_,_,_=>rfl
 |[],[],_,h,_=>by cases h
 |_::_,[],_,h,_=>by cases h
 |[],_::_,[],_,h=>by cases h
 |_::_,_::_,[],_,h=>by cases h
 |x::a,y::b,z::c,d,h2=>by
  simp only[Op.bytesLess,Ĵ,Ĉ,Ě,aa6]at d h2⊢;rcases d with d|⟨rfl,d⟩
  .rcases h2 with h2|⟨rfl,h2⟩
   .exact .inl (UInt8.lt_trans d h2)
   exact .inl d
  rcases h2 with h2|⟨rfl,h2⟩
  .exact .inl h2
  exact .inr ⟨rfl,KH d h2⟩
theorem Ru:∀{a b:Ŀ UInt8},¬Op.bytesLess a b=true->¬Op.bytesLess b a=true->a=b
 |[],[],_,_=>rfl
 |[],_::_,h,_=>absurd rfl h
 |_::_,[],_,h=>absurd rfl h
 |x::a,y::b,c,h2=>by simp only[Op.bytesLess,Ĵ,Ĉ,Ě,aa6,not_or,not_and]at c h2;have e:x=y:=UInt8.le_antisymm (UInt8.not_lt.1 h2.1) (UInt8.not_lt.1 c.1);subst e;rw[Ru (c.2 rfl) (h2.2 rfl)]
theorem Rr:∀a:Ŀ UInt8,¬Op.bytesLess a a=true
 |[],h=>by cases h
 |x::a,h=>by
  simp only[Op.bytesLess,Ĵ,Ĉ,Ě,aa6]at h;rcases h with h|⟨_,h⟩
  .exact UInt8.lt_irrefl x h
  exact Rr a h
def gT(σ τ:M):M:=λi=>Ε σ (τ i)
def pK(l:Ŀ M)(τ:M):Bool:=l.all (λσ=>l.any λρ=>decide (gT σ τ=ρ))&&l.all λρ=>l.any λσ=>decide (gT σ τ=ρ)
def kI(n:Nat):Bool:=(Β n).all (pK (Β n))
theorem Zvk(n:Nat):kI n=(Β n).all (pK (Β n)):=rfl
def qs(π:M):Bool:=decide (∀j:Fin 8,∃i:Fin 8,π i=(j.val:Int))
theorem Zwl:(kI 1&&kI 2&&kI 3&&kI 4)=true:=by decide +kernel
theorem ZyR:((Β 1).all qs&&(Β 2).all qs&&(Β 3).all qs&&(Β 4).all qs)=true:=by decide +kernel
theorem mR{n:Nat}(h:1<=n/\n<=4){τ:M}(f:τ∈Β n):(∀σ∈Β n,gT σ τ∈Β n)/\∀ρ∈Β n,∃σ∈Β n,gT σ τ=ρ:=by
 have key:kI n=true:=by
  have:=Zwl;simp only[Ĉ]at this;obtain⟨⟨⟨a,h2⟩,h3⟩,g⟩:=this;have i:n=1\/n=2\/n=3\/n=4:=ŉ;rcases i with rfl|rfl|rfl|rfl
  .exact a
  .exact h2
  .exact h3
  exact g
 rw[Zvk]at key;generalize Β n=l at *;have c:pK l τ=true:=Ć.1 key τ f;unfold pK at c;rw[Ĉ,Ć,Ć]at c;refine⟨λσ e=>?_,λρ d=>?_⟩
 .obtain⟨ρ,a,h2⟩:=dO.1 (c.1 σ e);rw[ĥ h2];exact a
 obtain⟨σ,a,h2⟩:=dO.1 (c.2 ρ d);exact⟨σ,a,ĥ h2⟩
theorem Dd{n:Nat}(h:1<=n/\n<=4){π:M}(a:π∈Β n)(j:Fin 8):∃i:Fin 8,π i=(j.val:Int):=by
 have:=ZyR;simp only[Ĉ,Ć]at this;obtain⟨⟨⟨c,h2⟩,h3⟩,d⟩:=this;have e:n=1\/n=2\/n=3\/n=4:=ŉ;rcases e with rfl|rfl|rfl|rfl
 .exact ĥ (c π a) j
 .exact ĥ (h2 π a) j
 .exact ĥ (h3 π a) j
 exact ĥ (d π a) j
theorem Zzp{n:Nat}(h:1<=n/\n<=4){σ τ:M}(c:τ∈Β n)(i j:Fin 8)(a:(j.val:Int)=τ i):gT σ τ i=σ j:=by unfold gT;rw[<-a];exact Õ j.isLt
theorem RY{n:Nat}(h:1<=n/\n<=4){σ τ:M}(c:σ∈Β n)(a:τ∈Β n)(m:M):fx σ (fx τ m)=fx (gT σ τ) m:=by have e:=(og h c).perm;have h2:=(og h a).perm;have h3:=(og h ((mR h a).1 σ c)).perm;funext j;obtain⟨i,hi⟩:=Dd h c j;obtain⟨l,d⟩:=Dd h a i;rw[tW e _ i j hi.symm,tW h2 _ l i d.symm,tW h3 _ l j (by rw[Zzp h a l i d.symm];exact hi.symm)]
def gS(F:Zf->Zf)(p:Ù):Ù:=p.map λt=>⟨F t.c,t.m⟩
theorem SG{F:Zf->Zf}{p:Ù}(h:jn p):jn (gS F p):=by unfold gS jn;rw[ej];exact h
theorem KM{π:M}(h:Ë π){p q:Ù}(hp:jn p)(c:jn q)(e:q.Perm (p.map (jf π))):à π p=q:=by obtain⟨a,h2⟩:=q6 h hp;exact R7 c (a.trans e.symm) (SL h2)
theorem RZ{n:Nat}(h:1<=n/\n<=4){σ τ:M}(a:σ∈Β n)(c:τ∈Β n){p:Ù}(hp:ω p):à σ (à τ p)=à (gT σ τ) p:=by have e:=(og h a).perm;have h2:=(og h c).perm;have h3:=(og h ((mR h c).1 σ a)).perm;have f:=oD h2 hp;obtain⟨a1,a2⟩:=q6 e f.ord;obtain⟨d,g⟩:=q6 h2 hp.ord;refine(KM h3 hp.ord a2 ?_).symm;refine a1.trans ((d.map _).trans (abB ?_));rw[aaa];refine ŭ λt _=>?_;show(⟨t.c,fx σ (fx τ t.m)⟩:Za)=⟨t.c,_⟩;rw[RY h a c]
theorem ZvI{π:M}(h:Ë π)(F:Zf->Zf){p:Ù}(hp:ω p):à π (gS F p)=gS F (à π p):=by obtain⟨a,c⟩:=q6 h hp.ord;refine KM h (SG hp.ord) (SG c) ?_;unfold gS;rw[aaa];refine(a.map _).trans (abB ?_);rw[aaa];rfl
theorem YZ{s:Int}(d:s=1\/s = -1){u:Int}{g k:Nat}(f:1<=g)(h:1<=k){n:Int}(e:n % ((k*g:Nat):Int)=0):s*u*((s*(n / (g:Int))) / (k:Int))=u*(n / ((k*g:Nat):Int)):=by
 obtain⟨q,rfl⟩:∃q,n=((k*g:Nat):Int)*q:=⟨n / ((k*g:Nat):Int),by have:=dU n ((k*g:Nat):Int);omega⟩;have c:((k*g:Nat):Int)*q=(g:Int)*((k:Int)*q):=by rw[Int.natCast_mul,aaC (k:Int),Int.mul_assoc]
 have a:((k*g:Nat):Int)≠0:=by have:=Nat.mul_pos (show 0<k by omega) (show 0<g by omega);omega
 rw[eu _ a,c,eu _ ŉ];rcases d with rfl|rfl
 .rw[aas,aas,eu _ ŉ]
 rw[show(-1:Int)*((k:Int)*q)=(k:Int)*(-q) by rw[Int.mul_neg,Int.neg_mul,aas],eu _ ŉ,Int.neg_mul,aas,Int.neg_mul,Int.mul_neg,Int.neg_neg]
theorem ZyO{s:Int}(l:s=1\/s = -1){g:Nat}(k:1<=g){p:Ù}(hp:ω p)(d:p≠[])(j:∀t∈p,Í t.c % (g:Int)=0):jB (gS (fK s g) p)=s*jB p:=by
 match p,d with
 |t::p,_=>
  obtain⟨e,m,_⟩:=hp.num (t:=t) ß;have c:=j t ß;show(if Í (fK s g t.c)<0 then(-1:Int)else 1)=s*(if Í t.c<0 then -1 else 1);rw[LM];have n:=Mo k c m;have i:=dU (Í t.c) g;rw[c,aaB]at i;generalize Í t.c / (g:Int)=z at *;generalize Í t.c=N at *;have sg:z<0↔N<0:=by
   constructor
   .intro f;have:=abc (show(0:Int)<(g:Int) by omega) f;omega
   intro a;by_cases f:0<z
   .have:=Int.mul_pos (show(0:Int)<(g:Int) by omega) f;omega
   omega
  rcases l with rfl|rfl
  .rw[aas,aas];by_cases a:N<0
   .rw[ą a,ą (sg.2 a)]
   rw[ā a,ā (λh=>a (sg.1 h))]
  by_cases a:N<0
  .have:=sg.2 a;rw[ą a,ā ŉ];rfl
  have:¬z<0:=λh=>a (sg.1 h);rw[ā a,ą ŉ];rfl
theorem Zxj{s:Int}(h:s=1\/s = -1){g:Nat}(f:1<=g){p:Ù}(hp:ω p)(i:∀t∈p,Í t.c % (g:Int)=0):Χ (gS (fK s g) p)=Χ p:=by
 by_cases c:p=[]
 .subst c;rfl
 have j:=K1 h f i;have a:ó (gS (fK s g) p)*g=ó p:=j;have l:1<=ó (gS (fK s g) p):=by
  have:=(xj hp c).1;rcases aa3 (ó (gS (fK s g) p))with e|e
  .rw[e,dw]at a;omega
  exact e
 show(gS (fK s g) p).map (λt=>(⟨fK (jB (gS (fK s g) p)) (ó (gS (fK s g) p)) t.c,t.m⟩:Za))=p.map _;rw[ZyO h f hp c i];generalize ó (gS (fK s g) p)=k at *;unfold gS;rw[aaa];refine ŭ λt m=>?_;have d:=xz m;rw[<-a]at d;show(⟨fK (s*jB p) k (fK s g t.c),t.m⟩:Za)=⟨fK (jB p) (ó p) t.c,t.m⟩;have:fK (s*jB p) k (fK s g t.c)=fK (jB p) (ó p) t.c:=by unfold fK;rw[py,YZ h f l d,a]
 rw[this]
theorem Sl{π:M}(h:Ë π){p:Ù}(hp:ω p):Χ (à π (Χ p))=Χ (à π p):=by
 by_cases a:p=[]
 .subst a;rfl
 have e:Χ p=gS (fK (jB p) (ó p)) p:=rfl;rw[e,ZvI h _ hp];refine Zxj (Mh p) (xj hp a).1 (oD h hp) (λt c=>?_);obtain⟨y,d,rfl⟩:=Ğ.1 ((q6 h hp.ord).1.mem_iff.1 c);have:=xz d;exact this
def kx(π:M)(l:Ŀ Ù):Ŀ Ù:=l.map λp=>Χ (à π p)
theorem Tz{n:Nat}{least:Int}{l:Ŀ Ù}(f:n<=4)(h:iN (n:Int) least l){π:M}(d:gD n π){plain:Bool}(hp:plain=true->1<=least):kept (l.map (à π)) plain=kx π l:=by have e:=Gg f h d;unfold kept kx;rw[aaa];refine List.filter_eq_self.2 λq g=>?_;obtain⟨p,c,rfl⟩:=Ğ.1 g;obtain⟨j,k,i,q4⟩:=e (à π p) (Ğ.2 ⟨p,c,rfl⟩);have:=ZzT (l:=[à π p]) (plain:=plain) (p:=à π p) ß i (λa=>by have:=hp a;omega);exact(ō.1 this).2
theorem yV{k:Zb}(h:æ k){π:M}(a:π∈Β k.n.toNat):ý k π=⟨k.n,ef (kx π k.eqs),ef (kx π k.ε)⟩:=by obtain⟨n,eqs,ε⟩:=k;obtain⟨m,rfl,e,c⟩:=vw h.n;have d:gD m π:=og ⟨e,c⟩ a;rw[(lP h (lQ h π a)).eq];have hi:=Gg c h.ε d;dsimp only at hi⊢;unfold hN;rw[Le (λp hp=>(hi p hp).2.2.1),Ę,Tz c h.eqs d (λh=>by cases h),Tz c h.ε d (λ_=>Ŝ 1)]
theorem VL{n:Nat}{least:Int}{l:Ŀ Ù}(h:iN (n:Int) least l){π:M}(a:Ë π):∀q∈kx π l,ω q:=λq c=>by obtain⟨p,hp,rfl⟩:=Ğ.1 c;exact vv (oD a (h.hZ p hp).1)
theorem UF{n:Nat}(f:1<=n/\n<=4){least:Int}{l:Ŀ Ù}(h:iN (n:Int) least l){σ τ:M}(c:σ∈Β n)(d:τ∈Β n):ef (kx σ (ef (kx τ l)))=ef (kx (gT σ τ) l):=by
 have g:=(og f c).perm;have h2:=(og f d).perm;have h3:=(og f ((mR f d).1 σ c)).perm;have j:=VL h h2;obtain⟨a1,a2⟩:=FL (λp hp=>(j p hp).gp);have r:∀q∈kx σ (ef (kx τ l)),ω q:=λq e=>by obtain⟨p,hp,rfl⟩:=Ğ.1 e;exact vv (oD g (j p ((a2 p).1 hp)))
 obtain⟨k,m⟩:=FL (λp hp=>(r p hp).gp);refine VH (λp hp=>(VL h h3 p hp).gp) k λz=>?_;rw[m z];constructor
 .intro i;obtain⟨p,hp,rfl⟩:=Ğ.1 i;obtain⟨q,e,rfl⟩:=Ğ.1 ((a2 p).1 hp);have a:=(h.hZ q e).1;refine Ğ.2 ⟨q,e,?_⟩;show Χ (à (gT σ τ) q)=Χ (à σ (Χ (à τ q)));rw[Sl g (oD h2 a),RZ f c d a]
 intro i;obtain⟨q,e,rfl⟩:=Ğ.1 i;have a:=(h.hZ q e).1;refine Ğ.2 ⟨Χ (à τ q),(a2 _).2 (Ğ.2 ⟨q,e,rfl⟩),?_⟩;show Χ (à σ (Χ (à τ q)))=Χ (à (gT σ τ) q);rw[Sl g (oD h2 a),RZ f c d a]
theorem RX{k:Zb}(h:æ k){σ τ:M}(c:σ∈Β k.n.toNat)(a:τ∈Β k.n.toNat):ý (ý k τ) σ=ý k (gT σ τ):=by have n:=(lP h (lQ h τ a)).core;obtain⟨m,p,e,f⟩:=vw h.n;have d:k.n.toNat=m:=ŉ;have i:=h.eqs;have hi:=h.ε;rw[p]at i hi;rw[d]at c a;have g:=yV h (π:=τ) (by rw[d];exact a);have j:=yV h (π:=gT σ τ) (by rw[d];exact(mR ⟨e,f⟩ a).1 σ c);have l:=yV n (π:=σ) (by rw[g];show σ∈Β k.n.toNat;rw[d];exact c);rw[l,j,g];show(⟨k.n,ef (kx σ (ef (kx τ k.eqs))),ef (kx σ (ef (kx τ k.ε)))⟩:Zb)=_;rw[UF ⟨e,f⟩ i c a,UF ⟨e,f⟩ hi c a]
theorem LB(k:Zb):∀(l:Ŀ M) (s:Zb×M),(∃ρ,s=(ý k ρ,ρ))->
  (∃ρ,fi k l s=(ý k ρ,ρ)/\(ρ∈l\/fi k l s=s))/\(¬Op.bytesLess (ÿ s.1).toList (ÿ (fi k l s).1).toList=true)/\∀π∈l,¬Op.bytesLess (ÿ (ý k π)).toList (ÿ (fi k l s).1).toList=true
 |[],s,⟨ρ,g⟩=>⟨⟨ρ,g,.inr rfl⟩,Rr _,λπ i=>by cases i⟩
 |π::l,s,⟨ρ,g⟩=>by
  unfold fi;by_cases c:Op.bytesLess (ÿ (ý k π)).toList (ÿ s.1).toList=true
  .rw[ą c];obtain⟨⟨r,d,h2⟩,h3,f⟩:=LB k l (ý k π,π) ⟨π,rfl⟩;refine⟨⟨r,d,?_⟩,λh=>?_,λx a=>?_⟩
   .rcases h2 with h2|h2
    .exact .inl (by simp[h2])
    rw[d]at h2;have e:=(Prod.mk.inj h2).2;exact .inl (by simp[e])
   .exact h3 (KH c h)
   rcases Ď.1 a with rfl|a
   .exact h3
   exact f x a
  rw[ā c];obtain⟨⟨r,d,h2⟩,h3,f⟩:=LB k l s ⟨ρ,g⟩;refine⟨⟨r,d,?_⟩,h3,λx a=>?_⟩
  .rcases h2 with h2|h2
   .exact .inl (by simp[h2])
   exact .inr h2
  rcases Ď.1 a with rfl|a
  .intro h;by_cases e:Op.bytesLess (ÿ (fi k l s).1).toList (ÿ s.1).toList=true
   .exact c (KH h e)
   have:=Ru h3 e;rw[<-this]at h;exact c h
  exact f x a
theorem SB(k:Zb):∀(l:Ŀ M) (s:Zb×M),(∀π∈l,¬Op.bytesLess (ÿ (ý k π)).toList (ÿ s.1).toList=true)->fi k l s=s
 |[],_,_=>rfl
 |π::l,s,h=>by unfold fi;rw[ā (h π ß)];exact SB k l s λx a=>h x (by simp[a])
theorem E5(k:Zb):(∃ρ∈Β k.n.toNat,â k=(ý k ρ,ρ))/\∀π∈Β k.n.toNat,¬Op.bytesLess (ÿ (ý k π)).toList (ÿ (â k).1).toList=true:=by
 obtain⟨⟨ρ,c,h2⟩,h3,d⟩:=LB k (Β k.n.toNat).tail (ý k (λi=>(i.val:Int)),λi=>(i.val:Int)) ⟨_,rfl⟩;rw[vj];refine⟨⟨ρ,?_,c⟩,λπ a=>?_⟩
 .rcases h2 with h2|h2
  .simp[h2]
  rw[c]at h2;have:=(Prod.mk.inj h2).2;simp[this]
 rcases Ď.1 a with rfl|a
 .exact h3
 exact d π a
theorem id_comp{n:Nat}(a:1<=n/\n<=4){ρ:M}(h:ρ∈Β n):gT (λi=>(i.val:Int)) ρ=ρ:=by funext i;have hr:=(og a h).perm.ov i;show Ε _ (ρ i)=ρ i;rw[mT hr];show((ρ i).toNat:Int)=ρ i;omega
theorem ZlS{π:M}(h:Ë π):(Jd π).Α true:=by
 refine Cq.Zn 8 (λk s=>∃a:Fin 8->Bool,s=((k:Int),a)/\∀j,a j=true->∃i:Fin 8,i.val<k/\(j.val:Int)=π i) (λk s c e=>?_) (λs e=>?_) ⟨_,rfl,λj f=>by cases f⟩
 .obtain⟨a,rfl,d⟩:=e;have r:=h.ov ⟨k,c⟩;refine Cq.wp.yes ŉ ⟨⟨ŉ,ŉ⟩,?_⟩;rw[Õ c];refine Cq.wp.no ŉ ⟨⟨ŉ,ŉ⟩,Cq.wp.no ŉ ⟨⟨ŉ,ŉ⟩,r,Cq.wp.no (F9 h c d) ⟨⟨ŉ,ŉ⟩,r,?_⟩⟩⟩;rw[ψ ŉ];exact⟨_,rfl,Fj h c d⟩
 obtain⟨a,rfl,d⟩:=e;exact Cq.wp.no ĳ rfl
end Go.EL

namespace Go.EL
open Go.IntKind (i8 i16 i32 i64 u8 u16 u32 u64)
open Go Go.RowKit
abbrev Qn:=Int×Nat
def Ν(x:Qn):Zf:=⟨ã x.1,ã (x.2:Int)⟩
def uG(n:Int)(d:Nat):Qn:=(n / ((Nat.gcd n.natAbs d:Nat):Int),d / Nat.gcd n.natAbs d)
def hC(x y:Qn):Qn:=uG (x.1*y.1) (x.2*y.2)
def mw(x y:Qn):Qn:=uG (x.1*(y.2:Int)-y.1*(x.2:Int)) (x.2*y.2)
def kf(x:Qn):Qn:=if x.1<0 then(-(x.2:Int),x.1.natAbs)else((x.2:Int),x.1.natAbs)
def pd(x:Qn):Int:=if x.1<0 then -1 else if x.1=0 then 0 else 1
def hW:Ŀ Qn:=[(0,1),(1,1),(-1,1),(2,1),(-2,1),(3,1),(-3,1),(1,2),(-1,2),(3,2),(-3,2),(1,3),(-1,3),(2,3),(-2,3)]
def jJ(x:Qn):Bool:=match x.2 with
 |1=>match x.1 with
  |.ofNat n=>Nat.ble n 3
  |.negSucc n=>Nat.ble n 2
 |2=>match x.1 with
  |.ofNat n=>Nat.beq n 1 || Nat.beq n 3
  |.negSucc n=>Nat.beq n 0 || Nat.beq n 2
 |3=>match x.1 with
  |.ofNat n=>Nat.beq n 1 || Nat.beq n 2
  |.negSucc n=>Nat.beq n 0 || Nat.beq n 1
 |_=>false
theorem F7{x:Qn}(h:jJ x=true):x∈hW:=by
 obtain⟨n,d⟩:=x;unfold jJ at h;dsimp only at h;split at h
 .cases n with
  |ofNat n=>have h:=š h;match n,h with|0,_=>decide|1,_=>decide|2,_=>decide|3,_=>decide
  |negSucc n=>have h:=š h;match n,h with|0,_=>decide|1,_=>decide|2,_=>decide
 .cases n with
  |ofNat n=>rw[Ĵ]at h;rcases h with h|h<;>(rw[ĵ h];decide)
  |negSucc n=>rw[Ĵ]at h;rcases h with h|h<;>(rw[ĵ h];decide)
 .cases n with
  |ofNat n=>rw[Ĵ]at h;rcases h with h|h<;>(rw[ĵ h];decide)
  |negSucc n=>rw[Ĵ]at h;rcases h with h|h<;>(rw[ĵ h];decide)
 cases h
theorem Ot:(á (-1) 3 λn=>runs 40 (ZX n) (Ν (n,1))&&runs 40 (wM n) (Ν (n,1)))=true:=by decide +kernel
theorem Oo:(hW.all λx=>runs 40 (oB (Ν x)) (pd x)&&runs 40 (ZH (Ν x)) (pd x))=true:=by decide +kernel
theorem Oq:(hW.all λx=>x.1 == 0 || runs 60 (FX (Ν x)) (Ν (kf x),0))=true:=by decide +kernel
theorem Dt:(hW.all λx=>hW.all λy=>runs 60 (qZ (Ν x) (Ν y)) (Ν (hC x y)))=true:=by decide +kernel
theorem Dv:(hW.all λx=>hW.all λy=>runs 60 (F0 (Ν x) (Ν y)) (Ν (mw x y)))=true:=by decide +kernel
theorem Ds:(hW.all λx=>hW.all λy=>runs 60 (Z7 (Ν x) (Ν y)) (Ν (hC x y)))=true:=by decide +kernel
theorem Du:(hW.all λx=>hW.all λy=>runs 60 (Ek (Ν x) (Ν y)) (Ν (mw x y)))=true:=by decide +kernel
theorem Dw:(hW.all λx=>hW.all λy=>y.1 == 0 || runs 60 (Ei (Ν x) (Ν y)) (Ν (hC x (kf y)),0))=true:=by decide +kernel
theorem ta{f:Qn->Qn->Bool}(h:(hW.all λx=>hW.all λy=>f x y)=true){x y:Qn}(a:jJ x=true)(c:jJ y=true):f x y=true:=Ć.1 (Ć.1 h x (F7 a)) y (F7 c)
theorem xB{n:Int}(h:-1<=n/\n<=3):(ZX n).Α (Ν (n,1))/\(wM n).Α (Ν (n,1)):=by have:=Zq Ot h.1 h.2;rw[Ĉ]at this;exact⟨Zs this.1,Zs this.2⟩
theorem Mt{x:Qn}(h:jJ x=true):(oB (Ν x)).Α (pd x)/\(ZH (Ν x)).Α (pd x):=by have:=Ć.1 Oo x (F7 h);rw[Ĉ]at this;exact⟨Zs this.1,Zs this.2⟩
theorem ZBB{x:Qn}(h:jJ x=true)(a:x.1≠0):(FX (Ν x)).Α (Ν (kf x),0):=by have:=Ć.1 Oq x (F7 h);rw[Ĵ]at this;exact Zs (this.resolve_left (by simpa using a))
theorem OX{x y:Qn}(a:jJ x=true)(c:jJ y=true):(qZ (Ν x) (Ν y)).Α (Ν (hC x y)):=Zs (ta Dt a c)
theorem ZBE{x y:Qn}(a:jJ x=true)(c:jJ y=true):(F0 (Ν x) (Ν y)).Α (Ν (mw x y)):=Zs (ta Dv a c)
theorem ZBC{x y:Qn}(a:jJ x=true)(c:jJ y=true):(Z7 (Ν x) (Ν y)).Α (Ν (hC x y)):=Zs (ta Ds a c)
theorem ZBD{x y:Qn}(a:jJ x=true)(c:jJ y=true):(Ek (Ν x) (Ν y)).Α (Ν (mw x y)):=Zs (ta Du a c)
theorem ZBF{x y:Qn}(c:jJ x=true)(d:jJ y=true)(a:y.1≠0):(Ei (Ν x) (Ν y)).Α (Ν (hC x (kf y)),0):=by have:=ta Dw c d;rw[Ĵ]at this;exact Zs (this.resolve_left (by simpa using a))
end Go.EL

namespace Go.EL
open Go.IntKind (i8 i16 i32 i64 u8 u16 u32 u64)
open Go Go.RowKit
def nI(n:Int):Qn:=uG n 3
def oP(n m:Int):Qn:=uG (2*n+3*m) 6
def nu(x:Qn):Bool:=runs 60 (tY (Ν x)) true&&runs 60 (ZZ (Ν x)) true
def qw(x:Qn)(b:Bool):Bool:=runs 60 (vl (Ν x)) b&&runs 60 (tv (Ν x)) b
def BC(x y:Qn)(c:Int):Bool:=runs 60 (vt (Ν x) (Ν y)) c&&runs 60 (u9 (Ν x) (Ν y)) c
theorem Mn:(á (-128) 127 λn=>runs 60 (xg ⟨n,3,0⟩) (Ν (nI n))&&(nu (nI n)&&qw (nI n) (decide (n=0))))=true:=by decide +kernel
theorem Tt:(á 0 7 λm=>runs 60 (xg ⟨m,2,0⟩) (Ν (uG m 2))&&qw (oP 0 m) (decide (m=0)))=true:=by decide +kernel
theorem YL:(á (-256) 275 λs=>nu (uG s 6))=true:=by decide +kernel
theorem Zzo:(á 0 7 λm=>á (-128) 127 λn=>BC (nI n) (oP n m) (if m=0 then 0 else -1))=true:=by decide +kernel
def mY(m:Int):Bool:=á (-128) 127 λn=>runs 60 (vr (Ν (nI n)) (Ν (uG m 2))) (Ν (oP n m))
theorem Mx:mY 0=true:=by decide +kernel
theorem My:mY 1=true:=by decide +kernel
theorem Mz:mY 2=true:=by decide +kernel
theorem MA:mY 3=true:=by decide +kernel
theorem MB:mY 4=true:=by decide +kernel
theorem MC:mY 5=true:=by decide +kernel
theorem MD:mY 6=true:=by decide +kernel
theorem ME:mY 7=true:=by decide +kernel
theorem Zx0{m:Int}(h:0<=m/\m<=7):mY m=true:=by
 have:m=0\/m=1\/m=2\/m=3\/m=4\/m=5\/m=6\/m=7:=ŉ;rcases this with rfl|rfl|rfl|rfl|rfl|rfl|rfl|rfl
 .exact Mx
 .exact My
 .exact Mz
 .exact MA
 .exact MB
 .exact MC
 .exact MD
 exact ME
abbrev gN(n:Int):Prop:=-128<=n/\n<=127
abbrev iA(m:Int):Prop:=0<=m/\m<=7
theorem U6{n:Int}(h:gN n):(xg ⟨n,3,0⟩).Α (Ν (nI n)):=by have:=Zq Mn h.1 h.2;rw[Ĉ]at this;exact Zs this.1
theorem ZwU{m:Int}(h:iA m):(xg ⟨m,2,0⟩).Α (Ν (uG m 2)):=by have:=Zq Tt h.1 h.2;rw[Ĉ]at this;exact Zs this.1
theorem U3{n m:Int}(h:gN n)(a:iA m):(vr (Ν (nI n)) (Ν (uG m 2))).Α (Ν (oP n m)):=
 Zs (Zq (Zx0 a) h.1 h.2)
theorem Tc{n:Int}(h:gN n):(tY (Ν (nI n))).Α true/\(ZZ (Ν (nI n))).Α true:=by have:=Zq Mn h.1 h.2;unfold nu at this;simp only[Ĉ]at this;exact⟨Zs this.2.1.1,Zs this.2.1.2⟩
theorem U7{n:Int}(h:gN n):(vl (Ν (nI n))).Α (decide (n=0))/\(tv (Ν (nI n))).Α (decide (n=0)):=by have:=Zq Mn h.1 h.2;unfold qw at this;simp only[Ĉ]at this;exact⟨Zs this.2.2.1,Zs this.2.2.2⟩
theorem ZzO{m:Int}(h:iA m):(vl (Ν (oP 0 m))).Α (decide (m=0))/\(tv (Ν (oP 0 m))).Α (decide (m=0)):=by have:=Zq Tt h.1 h.2;unfold qw at this;simp only[Ĉ]at this;exact⟨Zs this.2.1,Zs this.2.2⟩
theorem Tv{n m:Int}(h:gN n)(a:iA m):(tY (Ν (oP n m))).Α true/\(ZZ (Ν (oP n m))).Α true:=by have:=Zq YL (show -256<=2*n+3*m by omega) (show 2*n+3*m<=275 by omega);unfold nu at this;simp only[Ĉ]at this;exact⟨Zs this.1,Zs this.2⟩
theorem Tk{n m:Int}(h:gN n)(a:iA m):(vt (Ν (nI n)) (Ν (oP n m))).Α (if m=0 then 0 else -1)/\(u9 (Ν (nI n)) (Ν (oP n m))).Α (if m=0 then 0 else -1):=by have:=Zq (Zq Zzo a.1 a.2) h.1 h.2;unfold BC at this;simp only[Ĉ]at this;exact⟨Zs this.1,Zs this.2⟩
def l5(n m:Int):Zl:=⟨Ν (nI n),Ν (oP n m)⟩
theorem P6{n m:Int}(h:gN n)(a:iA m):(JL (l5 n m)).Α true:=by refine⟨true,(Tc h).1,true,(Tv h a).1,_,(Tk h a).1,?_⟩;show decide _=true;split<;>decide
theorem Zoe{n m:Int}(h:gN n)(a:iA m):(Jj (l5 n m)).Α true:=by refine⟨true,(Tc h).2,true,(Tv h a).2,_,(Tk h a).2,?_⟩;show decide _=true;split<;>decide
end Go.EL

namespace Go.EL
open Go.IntKind (i8 i16 i32 i64 u8 u16 u32 u64)
open Go Go.RowKit
def eX{α:Type}(Z row:Ŀ α)(n:Nat):Ŀ α:=Z.take n++row.drop n
section
variable {α:Type}{Z row:Ŀ α}
theorem Zvo:eX Z row 0=row:=rfl
theorem ZwO(h:Z.length=row.length):eX Z row Z.length=Z:=by unfold eX;rw[List.take_length,h,List.drop_length,List.append_nil]
theorem EK(h:Z.length=row.length){n:Nat}(a:Z.length<=n):eX Z row n=Z:=by unfold eX;rw[List.take_of_length_le a,List.drop_eq_nil_of_le ŉ,List.append_nil]
theorem SM(h:Z.length=row.length)(n:Nat):(eX Z row n).length=row.length:=by unfold eX;rw[List.length_append,List.length_take,List.length_drop];omega
theorem LH(h:Z.length=row.length){n:Nat}(a:n<row.length):(eX Z row n)[n]?=some row[n]:=by unfold eX;rw[ģ (by rw[Č];omega),Č,Ŧ,show n+(n-min n Z.length)=n by omega];exact Ą a
theorem AS(h:Z.length=row.length){n:Nat}(a:n<row.length):(eX Z row n).set n (Z[n]'ŉ)=eX Z row (n+1):=by
 refine Ź λi=>?_;unfold eX;rw[aad];by_cases e:n=i
 .subst e;rw[ą rfl,ą (by rw[Ā,Č,Ľ];omega),Ė (by rw[Č];omega),Ŷ ŉ,Ą ŉ]
 rw[ā e];by_cases hi:i<n
 .rw[Ė (by rw[Č];omega),Ė (by rw[Č];omega),Ŷ hi,Ŷ ŉ]
 rw[ģ (by rw[Č];omega),ģ (by rw[Č];omega),Č,Č,Ŧ,Ŧ];congr 1;omega
theorem KE(h:Z.length=row.length)(g:row.length<=1000){step:Int×Ŀ α->Cq ((Int×Ŀ α)⊕Ŀ α)}(f:∀n (i:n<row.length),(step ((n:Int),eX Z row n)).Α (.inl (((n+1:Nat):Int),(eX Z row n).set n (Z[n]'ŉ))))
  (h2:(step ((row.length:Int),Z)).Α (.inr Z)):(Cq.loop step (0,row)).Α Z:=by
 refine Cq.Zn row.length (λk s=>s=((k:Int),eX Z row k)) (λk s d c=>?_) (λs c=>?_) rfl
 .subst c
  refine(step _).mono (λa (e:a=_)=>?_) (f k d)
  subst e
  show _=_
  rw[AS h d]
 subst c
 rw[<-h,ZwO h]
 refine(step _).mono (λa (e:a=_)=>?_) (by rw[h];exact h2)
 subst e
 rfl
end
theorem ub{l:Ŀ Qn}{n:Nat}(h:n<l.length):(0:Int)<=(n:Int)/\(l.map Ν)[(n:Int).toNat]?=some (Ν l[n]):=⟨ŉ,by simp[h]⟩
theorem vf{α:Type}{Z row:Ŀ α}(h:Z.length=row.length){n:Nat}(a:n<row.length):(0:Int)<=(n:Int)/\(eX Z row n)[(n:Int).toNat]?=some row[n]:=⟨ŉ,by rw[Ĕ];exact LH h a⟩
def oX(row oj:Ŀ Qn)(c:Qn):Ŀ Qn:=List.zipWith (λx y=>mw x (hC c y)) row oj
def qf(row oj:Ŀ Qn)(c:Qn):Bool:=jJ c&&row.all jJ&&oj.all jJ&&oj.all (λy=>jJ (hC c y))&&decide (row.length=8)&&decide (oj.length=8)
theorem ZxW{row oj:Ŀ Qn}{k:Nat}(j:k<row.length)(h:qf row oj row[k]=true):(J1 (row.map Ν) (oj.map Ν) (k:Int)).Α ((oX row oj row[k]).map Ν):=by
 unfold qf at h;simp only[Ĉ,Ě,Ć]at h;obtain⟨⟨⟨⟨⟨f,h2⟩,h3⟩,g⟩,l⟩,m⟩:=h;have d:((oX row oj row[k]).map Ν).length=(row.map Ν).length:=by rw[List.length_map,List.length_map];unfold oX;rw[List.length_zipWith];omega
 refine⟨_,ub j,?_⟩;show(Cq.next _ _).wp _;refine Cq.mono _ (λa (e:a=_)=>?_) (KE (Z:=(oX row oj row[k]).map Ν) (row:=row.map Ν) d (by rw[ć];omega) (λn c=>?_) ?_)
 .subst e;rfl
 .have nH:n<row.length:=by rwa [ć]at c
  have i:n<oj.length:=ŉ;refine Cq.wp.yes ŉ ⟨_,vf d c,_,ub i,Ν (hC row[k] oj[n]),OX f (h3 _ (Ă _)),Ν (mw row[n] (hC row[k] oj[n])),?_,_,vf d c,?_⟩
  .rw[Ũ];exact ZBE (h2 _ (Ă _)) (g _ (Ă _))
  show _=_;rw[ψ ŉ];congr 3;simp[oX]
 exact Cq.wp.no (by rw[ć];omega) rfl
def eC:Ŀ Qn->Nat
 |[]=>0
 |x::l=>if x.1=0 then eC l+1 else 0
theorem Ll:∀l:Ŀ Qn,eC l<=l.length
 |[]=>Ċ _
 |x::l=>by have:=Ll l;unfold eC;split<;>simp only[ę]<;>omega
theorem Tp:∀{l:Ŀ Qn}{n:Nat}(h:n<l.length),n<eC l->l[n].1=0
 |x::l,0,_,h=>by
  unfold eC at h;split at h
  .assumption
  omega
 |x::l,n+1,a,h=>by
  unfold eC at h;split at h
  .exact Tp (l:=l) (by simpa using a) ŉ
  omega
theorem Lm:∀{l:Ŀ Qn}(h:eC l<l.length),l[eC l].1≠0
 |x::l,h=>by
  by_cases a:x.1=0
  .have e:eC (x::l)=eC l+1:=ą a;simp only[e,x5];exact Lm (l:=l) (by rw[e]at h;simpa using h)
  have e:eC (x::l)=0:=ā a;simp only[e,dz];exact a
theorem Fk{x:Qn}:pd x=0↔x.1=0:=by
 unfold pd;split
 .constructor<;>intro<;>omega
 split<;>constructor<;>intro<;>omega
theorem Zwa{row:Ŀ Qn}(h:row.length=8)(a:row.all jJ=true):(QC (row.map Ν) 0).Α (eC row:Int):=by
 rw[Ć]at a;have f:=Ll row;refine Cq.Zn (eC row) (λk s=>s=(k:Int)) (λk s d c=>?_) (λs c=>?_) rfl
 .subst c;refine Cq.wp.yes ŉ ⟨_,ub (l:=row) ŉ,_,(Mt (a _ (Ă ŉ))).1,Cq.wp.yes (Fk.2 (Tp ŉ d)) ?_⟩;show _=_;rw[ψ ŉ]
 subst c;by_cases g:eC row<8
 .refine Cq.wp.yes ŉ ⟨_,ub (l:=row) ŉ,_,(Mt (a _ (Ă ŉ))).1,Cq.wp.no (λe=>Lm ŉ (Fk.1 e)) rfl⟩
 exact Cq.wp.no ŉ rfl
def pc(row:Ŀ Qn)(c:Qn):Ŀ Qn:=row.map λx=>hC x c
theorem ZxX{row:Ŀ Qn}{c:Qn}(e:Int)(h:row.length=8)(a:row.all jJ=true)(g:jJ c=true):(QB (Ν c,e) (0,row.map Ν)).Α ((pc row c).map Ν):=by
 rw[Ć]at a;have f:((pc row c).map Ν).length=(row.map Ν).length:=by simp[pc]
 refine KE (Z:=(pc row c).map Ν) (row:=row.map Ν) f (by rw[ć];omega) (λn d=>?_) ?_
 .have nH:n<row.length:=by rwa [ć]at d
  refine Cq.wp.yes ŉ ⟨_,vf f d,Ν (hC row[n] c),?_,_,vf f d,?_⟩
  .rw[Ũ];exact OX (a _ (Ă _)) g
  show _=_;rw[ψ ŉ];congr 3;simp[pc]
 exact Cq.wp.no (by rw[ć];omega) rfl
def fV(m:Fin 8->Int):Ŀ Qn:=(List.range 8).map λ(k:Nat)=>(Ε m (k:Int),1)
def lS(m:Fin 8->Int):Bool:=decide (∀i,-1<=m i/\m i<=3)
theorem LV(m:Fin 8->Int):(fV m).length=8:=by simp[fV]
theorem Ud{m:Fin 8->Int}(h:lS m=true){k:Nat}(a:k<8):-1<=Ε m (k:Int)/\Ε m (k:Int)<=3:=by rw[Õ a];exact ĥ h _
theorem Zwc{o:Ord}{i:Nat}(hi:i<o.length)(h:lS o[i]=true){z:Zf}:(Qp o (i:Int) (0,List.replicate 8 z)).Α ((fV o[i]).map Ν):=by
 have c:((fV o[i]).map Ν).length=(List.replicate 8 z).length:=by rw[ć,LV,Ĺ]
 refine KE (Z:=(fV o[i]).map Ν) (row:=List.replicate 8 z) c (by rw[Ĺ];omega) (λn a=>?_) ?_
 .have nH:n<8:=by rwa [Ĺ]at a
  refine Cq.wp.yes ŉ ⟨_,Κ hi,⟨ŉ,ŉ⟩,Ν (Ε o[i] (n:Int),1),(xB (Ud h nH)).1,_,vf c a,?_⟩;show _=_;rw[ψ ŉ];congr 3;simp[fV]
 exact Cq.wp.no (by rw[Ĺ];omega) rfl
def fy(done:Ŀ (Ŀ Qn×Nat))(row:Ŀ Qn):Nat->Ŀ Qn
 |0=>row
 |k+1=>match done[k]? with
  |some d=>oX (fy done row k) d.1 ((fy done row k).getD d.2 (0,1))
  |none=>fy done row k
def qg(done:Ŀ (Ŀ Qn×Nat))(row:Ŀ Qn):Bool:=(List.range done.length).all λk=>match done[k]? with
 |some d=>qf (fy done row k) d.1 ((fy done row k).getD d.2 (0,1))&&decide (d.2<8)
 |none=>false
theorem Ztz{done:Ŀ (Ŀ Qn×Nat)}{row:Ŀ Qn}(l:done.length<=100)(h:qg done row=true):
  (QD (done.map λd=>d.1.map Ν) (done.map λd=>(d.2:Int)) (0,row.map Ν)).Α ((fy done row done.length).map Ν):=by
 refine Cq.Zn done.length (λk s=>s=((k:Int),(fy done row k).map Ν)) (λk s c e=>?_) (λs e=>?_) rfl
 .subst e
  have a:=Ć.1 h k (ĺ.2 c)
  have f:done[k]?=some done[k]:=Ą c
  rw[f]at a
  dsimp only at a
  rw[Ĉ]at a
  have j:(fy done row k).length=8:=by have:=a.1;unfold qf at this;simp only[Ĉ,Ě]at this;exact this.1.2
  have h2:done[k].2<(fy done row k).length:=by rw[j];exact ĥ a.2
  have g:(fy done row k).getD done[k].2 (0,1)=(fy done row k)[done[k].2]:=by rw[Ģ,Ą h2];rfl
  rw[g]at a
  refine Cq.wp.yes (by rw[ć];omega) ⟨done[k].1.map Ν,⟨ŉ,by simp[c]⟩,(done[k].2:Int),⟨ŉ,by simp[c]⟩,_,ZxW h2 a.1,?_⟩
  show _=_
  rw[ψ ŉ]
  congr 2
  have i:fy done row (k+1)=match done[k]? with|some d=>oX (fy done row k) d.1 ((fy done row k).getD d.2 (0,1))|none=>fy done row k:=rfl
  rw[i,f]
  dsimp only
  rw[g]
 subst e
 exact Cq.wp.no (by rw[ć];omega) rfl
def ô(o:Ord):Nat->Ŀ (Ŀ Qn×Nat)
 |0=>[]
 |k+1=>match o[k]? with
  |some m=>
   let row:=fy (ô o k) (fV m) (ô o k).length
   if eC row=8 then ô o k else ô o k++[(pc row (kf (row.getD (eC row) (0,1))),eC row)]
  |none=>ô o k
theorem Cq.eY{α β:Type}{c:Cq α}{k:α->Cq β}{p:β->Prop}{r:α}(h:c.Α r)(h2:(k r).wp p):(c.next k).wp p:=c.mono (λa (e:a=r)=>by rw[e];exact h2) h
def sL(o:Ord):Bool:=(List.range o.length).all λk=>match o[k]? with
 |some m=>
  let row:=fy (ô o k) (fV m) (ô o k).length
  lS m&&qg (ô o k) (fV m)&&row.all jJ&&decide (row.length=8)&&(eC row == 8 || (jJ (row.getD (eC row) (0,1))&&jJ (kf (row.getD (eC row) (0,1)))))
 |none=>false
theorem R4(o:Ord):∀k,(ô o k).length<=k
 |0=>Ċ _
 |k+1=>by
  have:=R4 o k;unfold ô;split
  .dsimp only;split
   .omega
   rw[Ā];simp only[ę,ķ];omega
  omega
theorem Zwd{o:Ord}(A:o.length<=40)(h:sL o=true):(FE o).Α ((ô o o.length).length:Int):=by
 show(Cq.next _ _).wp _;refine Cq.Zn o.length (λk s=>s=((ô o k).map (λd=>d.1.map Ν),(ô o k).map (λd=>(d.2:Int)),(k:Int))) (λk s j l=>?_) (λs l=>?_) rfl
 .subst l;have e:=Ć.1 h k (ĺ.2 j);have q:o[k]?=some o[k]:=Ą j;rw[q]at e;dsimp only at e;simp only[Ĉ,Ě]at e;obtain⟨⟨⟨⟨t,h2⟩,h3⟩,n⟩,g⟩:=e;have x:=R4 o k;have f:ô o (k+1)=if eC (fy (ô o k) (fV o[k]) (ô o k).length)=8 then ô o k else ô o k++[(pc (fy (ô o k) (fV o[k]) (ô o k).length) (kf ((fy (ô o k) (fV o[k]) (ô o k).length).getD (eC (fy (ô o k) (fV o[k]) (ô o k).length)) (0,1))),eC (fy (ô o k) (fV o[k]) (ô o k).length))]:=by
   show(match o[k]? with|some m=>_|none=>_)=_;rw[q]
  generalize y:ô o k=D at *;have c:=Ztz (done:=D) (row:=fV o[k]) ŉ h2;generalize r:fy D (fV o[k]) D.length=row at *;have u:=Ll row;refine Cq.wp.yes ŉ ?_;refine Cq.eY (Zwc j t) (Cq.eY c (Cq.eY (Zwa n h3) ?_));by_cases i:eC row=8
  .refine Cq.wp.yes ŉ ?_;show _=_;rw[ψ ŉ,f,ą i]
  refine Cq.wp.no ŉ ?_;have a:eC row<row.length:=ŉ;have v:row.getD (eC row) (0,1)=row[eC row]:=by rw[Ģ,Ą a];rfl
  rw[v]at g f;have p:jJ row[eC row]=true/\jJ (kf row[eC row])=true:=by rw[Ĵ,aa6,Ĉ]at g;exact g.resolve_left i
  refine⟨_,ub a,_,ZBB p.1 (Lm a),Cq.eY (ZxX 0 n h3 p.2) ?_⟩;refine⟨by simp only[Ā,ć,ę,ķ];show _<=small;simp only[small];omega,by simp only[Ā,ć,ę,ķ];show _<=small;simp only[small];omega,?_⟩;show _=_;rw[ψ ŉ,f,ā i,ĩ,ĩ];rfl
 subst l;refine Cq.wp.no ŉ ?_;show _=_;rw[ć]
end Go.EL

namespace Go.EL
open Go.IntKind (i8 i16 i32 i64 u8 u16 u32 u64)
open Go Go.RowKit
abbrev Mq:=Ŀ (Ŀ Qn)
def gw(V:Mq):Ŀ (Ŀ Zf):=V.map λr=>r.map Ν
theorem Ga{α:Type}{V:Ŀ α}{k:Nat}(a:k<V.length)(r:α):(0:Int)<=(k:Int)/\(V.set k r)[(k:Int).toNat]?=some r:=⟨ŉ,by simp[a]⟩
theorem Y5{α:Type}{V:Ŀ α}{k j:Nat}(a:j<V.length)(h:k≠j)(r:α):(0:Int)<=(j:Int)/\(V.set k r)[(j:Int).toNat]?=some V[j]:=⟨ŉ,by simp[h,a]⟩
theorem LW{α:Type}{V:Ŀ α}{k:Nat}(a:k<V.length):V.set k V[k]=V:=ß
theorem Zw6{m:Fin 8->Int}(h:lS m=true){V:Ŀ (Ŀ Zf)}{k:Nat}(f:k<V.length){z:Zf}(g:V[k]=List.replicate 8 z):(PK (k:Int) m (V,0)).Α (V.set k ((fV m).map Ν)):=by
 have c:((fV m).map Ν).length=(List.replicate 8 z).length:=by rw[ć,LV,Ĺ]
 refine Cq.Zn 8 (λj s=>s=(V.set k (eX ((fV m).map Ν) (List.replicate 8 z) j),(j:Int))) (λj s e d=>?_) (λs d=>?_) (by rw[Zvo,<-g,LW f];rfl)
 .subst d;have a:j<(List.replicate 8 z).length:=by rw[Ĺ];exact e
  refine Cq.wp.yes ŉ ⟨⟨ŉ,ŉ⟩,Ν (Ε m (j:Int),1),(xB (Ud h e)).2,_,Ga f _,_,vf c a,?_⟩;show _=_;rw[ψ ŉ,Ĕ,Ĕ,List.set_set,<-AS c a];congr 3;simp[fV]
 subst d;refine Cq.wp.no ĳ ?_;show _=_;rw[EK c (by rw[ć,LV];exact Ċ _)]
theorem ZtK{o:Ord}(i:o.length<=100)(h:o.all lS=true){z:Zf}:(Qb o (List.replicate o.length (List.replicate 8 z),0)).Α (gw (o.map fV)):=by
 rw[Ć]at h;have d:(gw (o.map fV)).length=(List.replicate o.length (List.replicate 8 z)).length:=by unfold gw;rw[List.length_map,List.length_map,List.length_replicate]
 refine Cq.Zn o.length (λk s=>s=(eX (gw (o.map fV)) (List.replicate o.length (List.replicate 8 z)) k,(k:Int))) (λk s f e=>?_) (λs e=>?_) rfl
 .subst e;have a:k<(List.replicate o.length (List.replicate 8 z)).length:=by rw[Ĺ];exact f
  have c:k<(eX (gw (o.map fV)) (List.replicate o.length (List.replicate 8 z)) k).length:=by rw[SM d];exact a
  have g:(eX (gw (o.map fV)) (List.replicate o.length (List.replicate 8 z)) k)[k]=List.replicate 8 z:=by have:=LH d a;rw[Ą c]at this;rw[ů this,List.getElem_replicate]
  refine Cq.wp.yes ŉ ⟨_,Κ f,Cq.eY (Zw6 (h _ (Ă _)) c g) ?_⟩;show _=_;rw[ψ ŉ,<-AS d a];congr 3;simp[gw]
 subst e;refine Cq.wp.no ŉ ?_;show _=_;rw[EK d (by rw[d,Ĺ];exact Ċ _)]
def fj(i:Nat):Mq->Nat
 |[]=>0
 |r::l=>if(r.getD i (0,1)).1=0 then fj i l+1 else 0
theorem Lk(i:Nat):∀l:Mq,fj i l<=l.length
 |[]=>Ċ _
 |x::l=>by have:=Lk i l;unfold fj;split<;>simp only[ę]<;>omega
theorem Tn{i:Nat}:∀{l:Mq}{n:Nat}(h:n<l.length),n<fj i l->(l[n].getD i (0,1)).1=0
 |x::l,0,_,h=>by
  unfold fj at h;split at h
  .assumption
  omega
 |x::l,n+1,a,h=>by
  unfold fj at h;split at h
  .exact Tn (l:=l) (by simpa using a) ŉ
  omega
theorem To{i:Nat}:∀{l:Mq}(h:fj i l<l.length),(l[fj i l].getD i (0,1)).1≠0
 |x::l,h=>by
  by_cases a:(x.getD i (0,1)).1=0
  .have e:fj i (x::l)=fj i l+1:=ą a;simp only[e,x5];exact To (l:=l) (by rw[e]at h;simpa using h)
  have e:fj i (x::l)=0:=ā a;simp only[e,dz];exact a
def nZ(V:Mq):Bool:=V.all λr=>decide (r.length=8)&&r.all jJ
theorem Zxa{V:Mq}(h:nZ V=true){r:Ŀ Qn}(hr:r∈V):r.length=8/\∀x∈r,jJ x=true:=by have:=Ć.1 h r hr;rw[Ĉ,Ć]at this;exact⟨ĥ this.1,this.2⟩
theorem pU{r:Ŀ Qn}{i:Nat}(h:i<r.length):r.getD i (0,1)=r[i]:=by rw[Ģ,Ą h];rfl
theorem Zw0{V:Mq}(n:V.length<=100)(h:nZ V=true){i:Nat}(hi:i<8):(ZN (gw V) (i:Int)).Α (if fj i V=V.length then -1 else(fj i V:Int)):=by
 have l:=Lk i V;have d:(gw V).length=V.length:=ć _;have g:∀k (c:k<V.length),(JT (V[k].map Ν) (i:Int)).Α (decide (¬pd (V[k].getD i (0,1))=0)):=λk c=>by obtain⟨p,m⟩:=Zxa h (Ă c);have B2:i<V[k].length:=ŉ;rw[pU B2];exact⟨_,ub B2,_,(Mt (m _ (Ă _))).2,rfl⟩
 show(Cq.next _ _).wp _;refine Cq.Zn (fj i V) (λk s=>s=(k:Int)) (λk s c f=>?_) (λs f=>?_) rfl
 .subst f;refine Cq.wp.yes (by rw[d];omega) ⟨V[k].map Ν,⟨ŉ,by simp[gw,show k<V.length by omega]⟩,_,g k ŉ,Cq.wp.no (by rw[Fk.2 (Tn ŉ c)];decide) ?_⟩;show _=_;rw[ψ ŉ]
 subst f;by_cases j:fj i V=V.length
 .rw[ą j];exact Cq.wp.no (by rw[d];omega) rfl
 rw[ā j];have a:fj i V<V.length:=ŉ;exact Cq.wp.yes (by rw[d];omega) ⟨V[fj i V].map Ν,⟨ŉ,by simp[gw,a]⟩,_,g _ a,Cq.wp.yes (ă λe=>To a (Fk.1 e)) rfl⟩
def jc(row rr:Ŀ Qn)(i:Nat):Ŀ Qn:=row.take i++List.zipWith (λx y=>mw x (hC (hC (row.getD i (0,1)) (kf (rr.getD i (0,1)))) y)) (row.drop i) (rr.drop i)
def nh(row rr:Ŀ Qn)(i:Nat):Bool:=decide (row.length=8)&&decide (rr.length=8)&&row.all jJ&&rr.all jJ&&decide ((rr.getD i (0,1)).1≠0)&&jJ (hC (row.getD i (0,1)) (kf (rr.getD i (0,1))))&&(rr.drop i).all λy=>jJ (hC (hC (row.getD i (0,1)) (kf (rr.getD i (0,1)))) y)
theorem Fb{row rr:Ŀ Qn}{i:Nat}(a:row.length=8)(h2:rr.length=8):(jc row rr i).length=8:=by unfold jc;rw[Ā,Č,List.length_zipWith,Ľ,Ľ];omega
theorem Zya{row rr:Ŀ Qn}{i j:Nat}(a:row.length=8)(h2:rr.length=8)(hi:i<=j)(d:j<8):(jc row rr i)[j]'(by rw[Fb a h2];exact d)=mw row[j] (hC (hC (row.getD i (0,1)) (kf (rr.getD i (0,1)))) rr[j]):=by
 have c:(jc row rr i)[j]?=some (mw row[j] (hC (hC (row.getD i (0,1)) (kf (rr.getD i (0,1)))) rr[j])):=by unfold jc;rw[ģ (by rw[Č];omega),Č,List.getElem?_zipWith,Ŧ,Ŧ,show i+(j-min i row.length)=j by omega,Ą ŉ,Ą ŉ]
 rw[Ą (by rw[Fb a h2];exact d)]at c;exact ů c
theorem Zwq{V:Ŀ (Ŀ Zf)}{r k i:Nat}{row rr:Ŀ Qn}{e:Int}(j:k<V.length)(hr:r<V.length)(l:k≠r)(hi:i<8)(p:V[k]=row.map Ν)(h2:V[r]=rr.map Ν)(h:nh row rr i=true):
  (Qa (r:Int) (k:Int) (Ν (hC (row.getD i (0,1)) (kf (rr.getD i (0,1)))),e) (V,(i:Int))).Α (V.set k ((jc row rr i).map Ν)):=by
 unfold nh at h
 simp only[Ĉ,Ě,Ć]at h
 obtain⟨⟨⟨⟨⟨⟨c,n⟩,u⟩,q4⟩,q5⟩,v⟩,x⟩:=h
 have a:((jc row rr i).map Ν).length=(row.map Ν).length:=by rw[ć,ć,Fb c n,c]
 have d:eX ((jc row rr i).map Ν) (row.map Ν) i=row.map Ν:=by unfold eX jc;rw[ĩ,aaO (by rw[ć,Č];omega),List.map_take,List.take_take,Nat.min_self,Ń]
 refine Cq.Zn (8-i) (λt s=>s=(V.set k (eX ((jc row rr i).map Ν) (row.map Ν) (i+t)),((i+t:Nat):Int))) (λt s y m=>?_) (λs m=>?_) (by rw[ec,d,<-p,LW j])
 .subst m
  have f:i+t<(row.map Ν).length:=by rw[ć];omega
  have g:i+t<rr.length:=ŉ
  have q:rr[i+t]∈rr.drop i:=by rw[Ł];exact⟨t,by rw[Ľ];omega,by rw[List.getElem_drop]⟩
  refine Cq.wp.yes ŉ ⟨_,Ga j _,_,vf a f,V[r],Y5 hr l _,Ν rr[i+t],by rw[h2];exact ub g,_,ZBC v (q4 _ (Ă _)),Ν (mw row[i+t] (hC (hC (row.getD i (0,1)) (kf (rr.getD i (0,1)))) rr[i+t])),?_,_,Ga j _,_,vf a f,?_⟩
  .rw[Ũ]
   exact ZBD (u _ (Ă _)) (x _ q)
  show _=_
  rw[ψ ŉ,Ĕ,Ĕ,List.set_set,<-Ţ,<-AS a f]
  congr 3
  rw[Ũ,Zya c n ŉ ŉ]
 subst m
 refine Cq.wp.no ŉ ?_
 show _=_
 rw[EK a (by rw[ć,Fb c n];omega)]
theorem yY(V:Mq):(gw V).length=V.length:=ć _
theorem y9{V:Mq}{k:Nat}(a:k<V.length):(0:Int)<=(k:Int)/\(gw V)[(k:Int).toNat]?=some (V[k].map Ν):=⟨ŉ,by simp[gw,a]⟩
theorem LR(V:Mq)(k:Nat)(r:Ŀ Qn):(gw V).set k (r.map Ν)=gw (V.set k r):=by unfold gw;rw[List.map_set]
theorem getDM{V:Mq}{k:Nat}(h:k<V.length):V.getD k []=V[k]:=by rw[Ģ,Ą h];rfl
def fJ(M:Mq)(r i:Nat):Nat->Mq
 |0=>M
 |t+1=>(fJ M r i t).set (r+1+t) (jc ((fJ M r i t).getD (r+1+t) []) ((fJ M r i t).getD r []) i)
def nX(M:Mq)(r i:Nat):Bool:=(List.range (M.length-(r+1))).all λt=>nh ((fJ M r i t).getD (r+1+t) []) ((fJ M r i t).getD r []) i
theorem KD(M:Mq)(r i:Nat):∀t,(fJ M r i t).length=M.length
 |0=>rfl
 |t+1=>by have:=KD M r i t;unfold fJ;rw[Ŗ,this]
theorem ZtI{M:Mq}{r i:Nat}(q:M.length<=100)(hr:r<M.length)(hi:i<8)(h:nX M r i=true):
  (P9 (r:Int) (i:Int) (gw M,((r+1:Nat):Int))).Α (gw (fJ M r i (M.length-(r+1)))):=by
 refine Cq.Zn (M.length-(r+1)) (λt s=>s=(gw (fJ M r i t),((r+1+t:Nat):Int))) (λt s m f=>?_) (λs f=>?_) rfl
 .subst f
  have c:=Ć.1 h t (ĺ.2 m)
  have j:fJ M r i (t+1)=(fJ M r i t).set (r+1+t) (jc ((fJ M r i t).getD (r+1+t) []) ((fJ M r i t).getD r []) i):=rfl
  have p:=KD M r i t
  generalize fJ M r i t=X at *
  have d:r+1+t<X.length:=ŉ
  have a:r<X.length:=ŉ
  rw[getDM d,getDM a]at c j
  have oq:=c
  unfold nh at oq
  simp only[Ĉ,Ě,Ć]at oq
  obtain⟨⟨⟨⟨⟨⟨u,v⟩,n⟩,q4⟩,q5⟩,x⟩,y⟩:=oq
  have l:i<X[r+1+t].length:=ŉ
  have g:i<X[r].length:=ŉ
  have hp:=Zwq (V:=gw X) (e:=0) (r:=r) (k:=r+1+t) (i:=i) (row:=X[r+1+t]) (rr:=X[r]) (by rw[yY];exact d) (by rw[yY];exact a) ŉ hi (by simp[gw]) (by simp[gw]) c
  rw[pU l,pU g]at hp
  rw[pU g]at q5
  refine Cq.wp.yes (by rw[yY];omega) ⟨_,y9 d,_,ub l,_,y9 a,_,ub g,_,ZBF (n _ (Ă _)) (q4 _ (Ă _)) q5,Cq.eY hp ?_⟩
  show _=_
  rw[ψ ŉ,LR,j]
  rfl
 subst f
 refine Cq.wp.no (by rw[yY,KD];omega) ?_
 rfl
def kg(M:Mq)(r f:Nat):Mq:=(M.set r (M.getD (r+f) [])).set (r+f) (M.getD r [])
def qp(s:Mq×Nat)(i:Nat):Mq×Nat:=if fj i (s.1.drop s.2)=(s.1.drop s.2).length then s else(fJ (kg s.1 s.2 (fj i (s.1.drop s.2))) s.2 i (s.1.length-(s.2+1)),s.2+1)
def sY(s:Mq×Nat)(i:Nat):Bool:=nZ s.1&&decide (s.2<=s.1.length)&&decide (s.1.length<=100)&&(decide (fj i (s.1.drop s.2)=(s.1.drop s.2).length) || nX (kg s.1 s.2 (fj i (s.1.drop s.2))) s.2 i)
def kz(M:Mq):Nat->Mq×Nat
 |0=>(M,0)
 |i+1=>qp (kz M i) i
def qe(M:Mq):Bool:=(List.range 8).all λi=>sY (kz M i) i
theorem Zvz{V:Mq}(h:nZ V=true)(k:Nat):nZ (V.drop k)=true:=Ć.2 λr hr=>Ć.1 h r (List.mem_of_mem_drop hr)
theorem Zv5{o:Ord}(x:o.length<=100)(v:o.all lS=true)(h:qe (o.map fV)=true):(EO o).Α ((kz (o.map fV) 8).2:Int):=by
 refine⟨⟨ŉ,ŉ⟩,?_⟩;rw[Ĕ];refine Cq.eY (ZtK x v) ?_;show(Cq.next _ _).wp _;generalize o.map fV=M at h;refine Cq.Zn 8 (λi s=>s=(gw (kz M i).1,((kz M i).2:Int),(i:Int))) (λi s hi d=>?_) (λs d=>?_) rfl
 .subst d;have k:=Ć.1 h i (ĺ.2 hi);have t:kz M (i+1)=qp (kz M i) i:=rfl;rw[t];generalize kz M i=S at *;obtain⟨X,r⟩:=S;unfold sY at k;simp only[Ĉ,Ě]at k;obtain⟨⟨⟨n,h2⟩,h3⟩,g⟩:=k;dsimp only at n h2 h3 g⊢;have q:=Zw0 (V:=X.drop r) (by rw[Ľ];omega) (Zvz n r) hi;have u:gw (X.drop r)=(gw X).drop r:=by unfold gw;rw[List.map_drop]
  rw[u]at q;have l:=Lk i (X.drop r);refine Cq.wp.yes ŉ ⟨⟨ŉ,by rw[yY];omega⟩,_,by rw[Ĕ];exact q,?_⟩;by_cases c:fj i (X.drop r)=(X.drop r).length
  .rw[ą c];refine Cq.wp.yes ĳ ?_;show _=_;rw[ψ ŉ];have j:qp (X,r) i=(X,r):=ą c;rw[j]
  rw[ā c];have j:qp (X,r) i=(fJ (kg X r (fj i (X.drop r))) r i (X.length-(r+1)),r+1):=ā c;rw[Ĵ,Ě]at g;have g:=g.resolve_left c;rw[Ľ]at l c;generalize fj i (X.drop r)=f at *;have a:r+f<X.length:=ŉ;have hr:r<X.length:=ŉ;have y:i64.wrap ((r:Int)+(f:Int))=((r+f:Nat):Int):=by rw[wrap64 ŉ];omega
  have d:kg X r f=(X.set r X[r+f]).set (r+f) X[r]:=by unfold kg;rw[getDM a,getDM hr]
  have m:(kg X r f).length=X.length:=by rw[d,Ŗ,Ŗ]
  have p:=ZtI (M:=kg X r f) (r:=r) (i:=i) ŉ ŉ hi g;rw[m]at p;refine Cq.wp.no ŉ ?_;rw[y];refine⟨_,y9 a,_,y9 hr,_,y9 hr,(if r=r+f then X[r+f].map Ν else X[r+f].map Ν),⟨ŉ,?_⟩,?_⟩
  .rw[Ĕ,Ĕ,aad];by_cases e:r=r+f
   .rw[ą e,ą (by rw[yY];exact hr),ą e]
   rw[ā e,ā e];have:=(y9 a).2;rwa [Ĕ]at this
  rw[Ĕ,Ĕ,LR,LR,<-d,ψ ŉ];refine Cq.eY p ?_;show _=_;rw[ψ ŉ,ψ ŉ,j]
 subst d;exact Cq.wp.no ĳ rfl
end Go.EL

namespace Go.EL
open Go.IntKind (i8 i16 i32 i64 u8 u16 u32 u64)
open Go Go.RowKit
theorem gD.b{n:Nat}{π:M}(h:gD n π):jz n π=true:=by unfold jz;simp only[Ĉ,Ě];exact⟨⟨h.perm.ov,h.perm.inj⟩,h.fix⟩
theorem Sh(π:M):à π []=[]:=rfl
theorem Zyu{n:Nat}(a:1<=n/\n<=4){p:Ù}(hp:ω p):à (λi=>(i.val:Int)) p=p:=by
 have hi:=(Zz7 a).perm;refine KM hi hp.ord hp.ord (abB ?_);refine((ŭ λt _=>?_).trans (List.map_id _)).symm;show jf _ t=t;unfold jf;have:fx (λi:Fin 8=>(i.val:Int)) t.m=t.m:=by funext j;exact tW hi _ j j rfl
 rw[this]
end Go.EL

namespace Go.EL
open Go.IntKind (i8 i16 i32 i64 u8 u16 u32 u64)
open Go Go.RowKit
def o9(m:Nat):Fin 8->Int:=λi=>if m.testBit i.val then 1 else 0
def jg(k:Nat)(w:Int):Fin 8->Int:=λi=>if i.val=k then w else 0
def oZ:Ord:=[o9 255,jg 7 (-1),jg 6 (-1),jg 5 (-1),jg 4 (-1),jg 3 (-1),jg 2 (-1),jg 1 (-1)]
def gQ:Ord:=(List.range 8).map λk=>jg k 1
def Ox:Ord:=[λi=>if i.val=0 then 2 else if i.val=1 then 3 else 1]
def Oy:Ord:=[λi=>if i.val<2 then 1 else 0,λi=>if i.val=0 then 1 else if i.val=1 then 0 else if i.val=2 then 2 else 1]
def lU(k:Nat):Ord:=match k % 8 with
 |0=>[]
 |1=>[o9 255]
 |2=>oZ
 |3=>oZ
 |4=>Ox
 |5=>Oy
 |_=>o9 (k / 8 % 16)::oZ
theorem UC:EG.Α oZ:=Zs (n:=20) (by decide +kernel)
theorem Tj:(á 0 15 λm=>runs 20 (Jc m) (o9 m.toNat::oZ))=true:=by decide +kernel
theorem Zvs:EV.Α [o9 255]:=Zs (n:=5) (by decide +kernel)
theorem ZBg:([ζ (ζ (ζ (ζ (ζ (ζ (ζ (ζ (λ_=>0) 0 2) 1 3) 2 1) 3 1) 4 1) 5 1) 6 1) 7 1]:Ord)=Ox:=by decide +kernel
theorem ZBh:([ζ (ζ (ζ (ζ (ζ (ζ (ζ (ζ (λ_=>0) 0 1) 1 1) 2 0) 3 0) 4 0) 5 0) 6 0) 7 0,ζ (ζ (ζ (ζ (ζ (ζ (ζ (ζ (λ_=>0) 0 1) 1 0) 2 2) 3 1) 4 1) 5 1) 6 1) 7 1]:Ord)=Oy:=by decide +kernel
theorem TG{k:Nat}(h:k<=255):(xh (k:Int)).Α (lU k):=by
 have f:Int.tmod (k:Int) 8=((k % 8:Nat):Int):=rfl;have a:Int.tmod (u8.wrap (Int.tdiv (k:Int) 8)) 16=((k / 8 % 16:Nat):Int):=by have c:Int.tdiv (k:Int) 8=((k / 8:Nat):Int):=rfl;rw[c,HI,show((k / 8:Nat):Int) % 256=((k / 8:Nat):Int) by omega];rfl
 have d:=x6 k (show 0<8 by decide);have e:=x6 (k / 8) (show 0<16 by decide);unfold xh EH lU;rw[f];generalize g:k % 8=j at *;match j,d with
 |0,_=>exact Cq.wp.yes rfl ⟨_,rfl,rfl⟩
 |1,_=>exact Cq.wp.no ĳ (Cq.wp.yes rfl ⟨_,Zvs,rfl⟩)
 |2,_=>exact Cq.wp.no ĳ (Cq.wp.no ĳ (Cq.wp.yes rfl (Cq.wp.yes rfl ⟨_,UC,rfl⟩)))
 |3,_=>exact Cq.wp.no ĳ (Cq.wp.no ĳ (Cq.wp.no ĳ (Cq.wp.yes rfl ⟨_,UC,rfl⟩)))
 |4,_=>
  refine Cq.wp.no ĳ (Cq.wp.no ĳ (Cq.wp.no ĳ (Cq.wp.no ĳ ?_)));exact Cq.wp.yes rfl ZBg
 |5,_=>
  refine Cq.wp.no ĳ (Cq.wp.no ĳ (Cq.wp.no ĳ (Cq.wp.no ĳ ?_)));exact Cq.wp.no ĳ (Cq.wp.yes rfl ZBh)
 |6,_=>
  refine Cq.wp.no ĳ (Cq.wp.no ĳ (Cq.wp.no ĳ (Cq.wp.no ĳ ?_)));rw[a];exact Cq.wp.no ĳ (Cq.wp.no ĳ ⟨_,Zs (Zq Tj ŉ ŉ),rfl⟩)
 |7,_=>
  refine Cq.wp.no ĳ (Cq.wp.no ĳ (Cq.wp.no ĳ (Cq.wp.no ĳ ?_)));rw[a];exact Cq.wp.no ĳ (Cq.wp.no ĳ ⟨_,Zs (Zq Tj ŉ ŉ),rfl⟩)
def kP:Ŀ Ord:=[[],[o9 255],oZ,Ox,Oy]++(List.range 16).map λm=>o9 m::oZ
theorem TO{k:Nat}:lU k∈kP:=by
 unfold lU;have h2:=x6 (k / 8) (show 0<16 by decide);unfold kP;rw[Ĩ];split
 .exact .inl ß
 .exact .inl ß
 .exact .inl ß
 .exact .inl ß
 .exact .inl ß
 .exact .inl ß
 exact .inr (Ğ.2 ⟨_,ĺ.2 h2,rfl⟩)
def eI(o:Ord):Ord:=if(ô o o.length).length=8 then o else o++gQ
def dE(π:Fin 8->Int)(o:Ord):Ord:=o.map (fx π)
def r8(o:Ord)(k:Fin 8):Bool:=match(o.map λm=>m k).find? λx=>x != 0 with
 |some x=>decide (0<x)
 |none=>true
def mo(o:Ord):Bool:=o.all lS&&decide (o.length<=24)&&decide (∀k,r8 o k=true)&&sL o&&qe (o.map fV)&&decide ((kz (o.map fV) 8).2=(ô o o.length).length)
theorem Zz4:(kP.all λo=>mo o&&decide ((ô o o.length).length=8\/o.length<=16))=true:=by decide +kernel
end Go.EL

namespace Go.EL
open Go.IntKind (i8 i16 i32 i64 u8 u16 u32 u64)
open Go Go.RowKit
def sG(o:Ord):Bool:=mo o&&Nat.beq (ô o o.length).length 8
def n1(k:Nat):Bool:=((kP.drop (3*k)).take 3).all λo=>(Β 3).all λπ=>sG (dE π (eI o))
theorem CR:n1 0=true:=by decide +kernel
theorem CS:n1 1=true:=by decide +kernel
theorem CT:n1 2=true:=by decide +kernel
theorem CU:n1 3=true:=by decide +kernel
theorem CV:n1 4=true:=by decide +kernel
theorem CW:n1 5=true:=by decide +kernel
theorem CX:n1 6=true:=by decide +kernel
theorem lW{α:Type}{l:Ŀ α}{p:α->Prop}(k:Nat)(h:∀x∈(l.drop (3*k)).take 3,p x)(h2:∀x∈l.drop (3*(k+1)),p x):∀x∈l.drop (3*k),p x:=λx a=>by
 rw[<-Ń 3 (l.drop (3*k)),Ĩ]at a;rcases a with a|a
 .exact h x a
 rw[abL]at a;exact h2 x a
theorem xy{k:Nat}(h:n1 k=true):∀o∈(kP.drop (3*k)).take 3,∀π∈Β 3,sG (dE π (eI o))=true:=λo c π a=>Ć.1 (Ć.1 h o c) π a
theorem T5:∀o∈kP,∀π∈Β 3,sG (dE π (eI o))=true:=
 lW 0 (xy CR)<|lW 1 (xy CS)<|lW 2 (xy CT)<|lW 3 (xy CU)<|lW 4 (xy CV)<|lW 5 (xy CW)<|lW 6 (xy CX) λo a=>by
  have e:kP.drop 21=[]:=by decide +kernel
  have a:o∈kP.drop 21:=a;rw[e]at a;cases a
end Go.EL

namespace Go.EL
open Go.IntKind (i8 i16 i32 i64 u8 u16 u32 u64)
open Go Go.RowKit
def gg(l:Ŀ Int):Int:=match l.find? λx=>x != 0 with
 |some x=>x
 |none=>0
theorem Rk(l:Ŀ Int)(x:Int):gg (l++[x])=if gg l=0 then x else gg l:=by
 unfold gg;rw[abi];cases h:l.find? λx=>x != 0 with
 |none=>
  simp only[Option.none_or];rw[ą trivial];by_cases a:x=0
  .subst a;rfl
  rw[List.find?_cons_of_pos (by simpa using a)]
 |some y=>
  have:=aaR h;simp only[Option.some_or];rw[ā (by simpa using this)]
theorem ZtH{o:Ord}{k:Fin 8}(h:r8 o k=true):0<=gg (o.map λm=>m k):=by
 unfold r8 at h;unfold gg;cases a:(o.map λm=>m k).find? λx=>x != 0 with
 |some x=>
  rw[a]at h;have:=ĥ h;dsimp only;omega
 |none=>exact Ŝ _
theorem Zvq{l m:Ŀ Int}(h:0<=gg (l++m)):0<=gg l:=by
 unfold gg at h⊢;rw[abi]at h;cases a:l.find? λx=>x != 0 with
 |none=>exact Ŝ _
 |some y=>rw[a]at h;exact h
structure kC (o:Ord):Prop where
 row:∀m∈o,∀k,-1<=m k/\m k<=3
 len:o.length<=24
 VS:∀k:Fin 8,0<=gg (o.map λm=>m k)
theorem kC.of{o:Ord}(h:mo o=true):kC o:=by unfold mo at h;simp only[Ĉ,Ě,Ć]at h;obtain⟨⟨⟨⟨⟨a,h2⟩,h3⟩,_⟩,_⟩,_⟩:=h;exact⟨λm c k=>ĥ (a m c) k,h2,λk=>ZtH (h3 k)⟩
theorem PL{o:Ord}{i:Nat}(hi:i<o.length)(f:(Fin 8->Int)->Int):(o.take (i+1)).map f=(o.take i).map f++[f o[i]]:=by rw[č hi,ĩ];rfl
theorem EC{o:Ord}(h:kC o):(yL o).Α true:=by
 have g:=h.len;refine Cq.wp.no ŉ ?_;show(Cq.next _ _).wp _;refine Cq.Zn 8 (λk s=>s=(k:Int)) (λk s a c=>?_) (λs c=>?_) rfl
 .subst c;refine Cq.wp.yes ŉ ?_;show(Cq.next _ _).wp _;refine Cq.Zn o.length (λi s=>s=(gg ((o.take i).map λm=>m ⟨k,a⟩),(i:Int))) (λi s hi c=>?_) (λs c=>?_) rfl
  .subst c;have hr:=h.row _ (Ă hi) ⟨k,a⟩;have f:Ε o[i] (k:Int)=o[i] ⟨k,a⟩:=Õ a;refine Cq.wp.yes ŉ ⟨_,Κ hi,⟨ŉ,ŉ⟩,Cq.wp.no (by rw[f];omega) ⟨_,Κ hi,⟨ŉ,ŉ⟩,Cq.wp.no (by rw[f];omega) ?_⟩⟩;have e:=Rk ((o.take i).map λm=>m ⟨k,a⟩) (o[i] ⟨k,a⟩);rw[<-PL hi (λm=>m ⟨k,a⟩)]at e;by_cases d:gg ((o.take i).map λm=>m ⟨k,a⟩)=0
   .refine Cq.wp.yes d ⟨_,Κ hi,⟨ŉ,ŉ⟩,?_⟩;show _=_;rw[ψ ŉ,f,e,ą d]
   refine Cq.wp.no d ?_;show _=_;rw[ψ ŉ,e,ā d]
  subst c;refine Cq.wp.no ŉ ?_;have:=h.VS ⟨k,a⟩;rw[Ĥ];refine Cq.wp.no ŉ ?_;show _=_;rw[ψ ŉ]
 subst c;exact Cq.wp.no ĳ rfl
def sS(l:Ord):Fin 8->Bool:=λk=>l.any λm=>decide (¬m k=0)
def jA(b:Fin 8->Bool)(m:Fin 8->Int)(n:Nat):Fin 8->Bool:=λk=>if k.val<n then b k || decide (¬m k=0)else b k
theorem B1{f:Fin 8->Bool}{k:Nat}(a:k<8):Ε f (k:Int)=f ⟨k,a⟩:=y8 f (by rw[Ĕ];exact a)
theorem ZvT{b:Fin 8->Bool}{m:Fin 8->Int}{n:Nat}(a:n<8):ζ (jA b m n) n (b ⟨n,a⟩ || decide (¬m ⟨n,a⟩=0))=jA b m (n+1):=by
 funext k;unfold ζ jA;by_cases e:k.val=n
 .have:k=⟨n,a⟩:=abe e;subst this;rw[ą rfl,ą (Ų _)]
 rw[ā e];by_cases h:k.val<n
 .rw[ą h,ą ŉ]
 rw[ā h,ā ŉ]
theorem ZyL{m:Fin 8->Int}{b:Fin 8->Bool}(h:∀k,-1<=m k/\m k<=3)(j:∀k,m k<0->b k=true):(PJ m (0,b)).Α (.inr (jA b m 8)):=by
 refine Cq.Zn 8 (λk s=>s=((k:Int),jA b m k)) (λk s c d=>?_) (λs d=>?_) (by show _=_;congr 1)
 .subst d;have hr:=h ⟨k,c⟩;have f:Ε m (k:Int)=m ⟨k,c⟩:=Õ c;have d:Ε (jA b m k) (k:Int)=b ⟨k,c⟩:=by rw[B1 c];unfold jA;rw[if_neg (Nat.lt_irrefl _)]
  have i:(D8 m (k:Int) (jA b m k)).wp (Out (λs'=>s'=(((k+1:Nat):Int),jA b m (k+1))) λo=>o=.inr (jA b m 8)):=by
   refine⟨⟨ŉ,ŉ⟩,?_⟩;have e:=ZvT (b:=b) (m:=m) c;by_cases a:b ⟨k,c⟩=true
   .refine Cq.wp.yes (by rw[d];exact a) ⟨⟨ŉ,ŉ⟩,?_⟩;show _=_;rw[ψ ŉ,<-e,a];rfl
   refine Cq.wp.no (by rw[d];exact a) ⟨⟨ŉ,ŉ⟩,?_⟩;show _=_;rw[ψ ŉ,<-e,ź.2 a,f];rfl
  refine Cq.wp.yes ŉ ⟨⟨ŉ,ŉ⟩,Cq.wp.no (by rw[f];omega) (Cq.wp.no (by rw[f];omega) ?_)⟩;by_cases g:m ⟨k,c⟩<0
  .refine Cq.wp.yes (by rw[f];exact g) ⟨⟨ŉ,ŉ⟩,Cq.wp.no (by rw[d,j _ g];decide) i⟩
  exact Cq.wp.no (by rw[f];exact g) i
 subst d;exact Cq.wp.no ĳ rfl
theorem E3{o:Ord}(h:kC o):(yw o).Α true:=by
 have l:=h.len;refine Cq.wp.no ŉ ?_;show(Cq.next _ _).wp _;refine Cq.Zn o.length (λi s=>s=((i:Int),sS (o.take i))) (λi s hi e=>?_) (λs e=>?_) rfl
 .subst e;refine Cq.wp.yes ŉ ⟨_,Κ hi,Cq.eY (ZyL (h.row _ (Ă hi)) λk j=>?_) ?_⟩
  .have a:=h.VS k;rw[<-Ń (i+1) o,ĩ]at a;have a:=Zvq a;rw[PL hi (λm=>m k),Rk]at a;by_cases c:gg ((o.take i).map λm=>m k)=0
   .rw[ą c]at a;omega
   unfold sS;rw[dO];unfold gg at c;cases d:((o.take i).map λm=>m k).find? λx=>x != 0 with
   |none=>rw[d]at c;exact absurd rfl c
   |some y=>
    have f:=dV d;have h2:=aaR d;obtain⟨m,g,rfl⟩:=Ğ.1 f;exact⟨m,g,by simpa using h2⟩
  show _=_;rw[ψ ŉ,č hi];congr 2;funext k;unfold jA sS;rw[ą k.isLt,List.any_append];simp
 subst e;exact Cq.wp.no ŉ rfl
theorem Zyp:(á 0 7 λk=>runs 20 (KK (u8.wrap (1*2 ^ (min k.toNat u8.bits)))) (jg k.toNat 1))=true:=by decide +kernel
theorem ZyT{k:Nat}(a:k<8):(FF (k:Int) 1).Α (jg k 1):=⟨⟨ŉ,ŉ⟩,by
 show _=_;funext i;unfold ζ jg;rw[Ĕ]⟩
theorem QY(o:Ord){k:Nat}(a:k<8):o++gQ.take (k+1)=(o++gQ.take k)++[jg k 1]:=by
 have c:k<gQ.length:=by simpa[gQ]using a
 rw[č c,Đ];simp[gQ]
theorem Zxn{o:Ord}(h:mo o=true):(EO o).Α ((ô o o.length).length:Int)/\(FE o).Α ((ô o o.length).length:Int):=by unfold mo at h;simp only[Ĉ,Ě]at h;obtain⟨⟨⟨⟨⟨a,h2⟩,_⟩,c⟩,d⟩,e⟩:=h;exact⟨by have:=Zv5 ŉ a d;rwa [e]at this,Zwd ŉ c⟩
theorem ZxS{o:Ord}(h:mo o=true)(j:(ô o o.length).length=8\/o.length<=16):(KJ o).Α (eI o,0)/\(Lu o).Α (eI o,0):=by
 have i:=kC.of h;obtain⟨m,n⟩:=Zxn h;have p:=i.len;have d:([]++o).length<=small:=by rw[Ļ];simp only[small];omega
 have l:gQ.take 8=gQ:=ě (by simp[gQ]);constructor
 .refine⟨_,E3 i,Cq.wp.no ĳ ⟨o,⟨λe=>by rw[e];rfl,d,rfl⟩,_,m,?_⟩⟩;by_cases a:(ô o o.length).length=8
  .refine Cq.wp.yes ŉ ?_;show _=_;unfold eI;rw[ą a]
  have g:=j.resolve_left a;refine Cq.wp.no ŉ (Cq.wp.no (by rw[wrap64 ŉ];omega) ?_);show(Cq.next _ _).wp _;refine Cq.Zn 8 (λk s=>s=(o++gQ.take k,(k:Int))) (λk s f c=>?_) (λs c=>?_) (by show _=_;simp)
  .subst c;have:=Zs (Zq Zyp (x:=(k:Int)) ŉ ŉ);refine Cq.wp.yes ŉ ⟨ŉ,_,this,by simp only[Ā,Č,ę,ķ];simp only[small];omega,?_⟩;show _=_;rw[ψ ŉ,QY o f];rfl
  subst c;refine Cq.wp.no ĳ ?_;show _=_;unfold eI;rw[ā a,l]
 refine⟨_,EC i,Cq.wp.no ĳ ⟨d,_,n,?_⟩⟩;by_cases a:(ô o o.length).length=8
 .refine Cq.wp.yes ŉ ?_;show _=_;unfold eI;rw[ą a];rfl
 have g:=j.resolve_left a;refine Cq.wp.no ŉ (Cq.wp.no ŉ ?_);show(Cq.next _ _).wp _;refine Cq.Zn 8 (λk s=>s=(o++gQ.take k,(k:Int))) (λk s f c=>?_) (λs c=>?_) (by show _=_;simp)
 .subst c;refine Cq.wp.yes ŉ ⟨_,ZyT f,by simp only[Ā,Č,ę,ķ];simp only[small];omega,?_⟩;show _=_;rw[ψ ŉ,QY o f]
 subst c;refine Cq.wp.no ĳ ?_;show _=_;unfold eI;rw[ā a,l]
theorem ZyB{π:Fin 8->Int}(h:Ë π){V:Ord}{k:Nat}(d:k<V.length)(e:V[k]=λ_=>0)(m:Fin 8->Int):(Pm π (k:Int) m (V,0)).Α (V.set k (fx π m)):=by
 refine Cq.Zn 8 (λj s=>s=(V.set k (eb π m j),(j:Int))) (λj s a c=>?_) (λs c=>?_) (by show _=_;rw[show eb π m 0=V[k]from e.symm,LW d];rfl)
 .subst c;have r:=h.ov ⟨j,a⟩;refine Cq.wp.yes ŉ ⟨⟨ŉ,ŉ⟩,⟨ŉ,ŉ⟩,_,Ga d _,by rw[Õ a];exact r,?_⟩;show _=_;rw[ψ ŉ,Õ a,Õ a,Ĕ,List.set_set];simp only[eb,Ÿ a]
 subst c;exact Cq.wp.no ĳ rfl
theorem Sg{π:Fin 8->Int}(c:Ë π){o:Ord}(h:mo o=true)(v:(ô o o.length).length=8\/o.length<=16):(JS o π).Α (dE π (eI o),0)/\(J0 o π).Α (dE π (eI o),0):=by
 have t:=kC.of h;obtain⟨f1,f2⟩:=ZxS h v;have x:(eI o).length<=40:=by
  have:=t.len;unfold eI;split
  .omega
  rw[Ā];simp[gQ];omega
 generalize eI o=F at *;constructor
 .refine⟨_,E3 t,Cq.wp.no ĳ ?_⟩;show(Cq.next _ _).wp _;refine Cq.Zn 8 (λk s=>∃p:Fin 8->Bool,s=((k:Int),p)/\∀j,p j=true->∃i:Fin 8,i.val<k/\(j.val:Int)=π i) (λk s d a=>?_) (λs a=>?_) ⟨_,rfl,λj f=>by cases f⟩
  .obtain⟨p,rfl,q⟩:=a;have r:=c.ov ⟨k,d⟩;refine Cq.wp.yes ŉ ⟨⟨ŉ,ŉ⟩,?_⟩;rw[Õ d];refine Cq.wp.no ŉ (Cq.wp.no ŉ ⟨r,Cq.wp.no (F9 c d q) ⟨r,?_⟩⟩);rw[ψ ŉ];exact⟨_,rfl,Fj c d q⟩
  obtain⟨p,rfl,q⟩:=a;refine Cq.wp.no ĳ ?_;show(Pn o π).wp _;refine⟨_,f1,Cq.wp.no (λe=>e rfl) ⟨⟨ŉ,by show((F.length:Nat):Int)<=1000000;omega⟩,?_⟩⟩;rw[Ĕ];show(Cq.next _ _).wp _;have n:(dE π F).length=(List.replicate F.length (λ_:Fin 8=>(0:Int))).length:=by unfold dE;rw[List.length_map,List.length_replicate]
  refine Cq.Zn F.length (λk s=>s=(eX (dE π F) (List.replicate F.length (λ_=>0)) k,(k:Int))) (λk s d a=>?_) (λs a=>?_) rfl
  .subst a;have g:k<(List.replicate F.length (λ_:Fin 8=>(0:Int))).length:=by rw[Ĺ];exact d
   have l:k<(eX (dE π F) (List.replicate F.length (λ_=>0)) k).length:=by rw[SM n];exact g
   have u:(eX (dE π F) (List.replicate F.length (λ_=>0)) k)[k]=λ_=>0:=by have:=LH n g;rw[Ą l]at this;rw[ů this,List.getElem_replicate]
   refine Cq.wp.yes (by show(k:Int)<((F.length:Nat):Int);omega) ⟨_,Κ d,Cq.eY (ZyB c l u F[k]) ?_⟩;show _=_;rw[ψ ŉ,<-AS n g];congr 3;simp[dE]
  subst a;refine Cq.wp.no (by show ¬(F.length:Int)<((F.length:Nat):Int);omega) ?_;show _=_;rw[EK n (by rw[n,Ĺ];exact Ċ _)]
 refine⟨_,EC t,Cq.wp.no ĳ ⟨_,ZlS c,Cq.wp.no ĳ ⟨_,f2,Cq.wp.no (λe=>e rfl) ?_⟩⟩⟩;show(Cq.next _ _).wp _;refine Cq.Zn F.length (λk s=>s=(dE π (F.take k),(k:Int))) (λk s d a=>?_) (λs a=>?_) rfl
 .subst a;have m:(PC π (F,0) (k:Int) (0,λ_=>0)).Α (fx π F[k]):=by
   refine Cq.Zn 8 (λj s=>s=((j:Int),eb π F[k] j)) (λj s f a=>?_) (λs a=>?_) rfl
   .subst a;have r:=c.ov ⟨j,f⟩;refine Cq.wp.yes ŉ ⟨⟨ŉ,ŉ⟩,F[k],Κ d,⟨ŉ,ŉ⟩,by rw[Õ f];exact r,?_⟩;show _=_;rw[ψ ŉ,Õ f,Õ f];simp only[eb,Ÿ f]
   subst a;exact Cq.wp.no ĳ rfl
  refine Cq.wp.yes (by show(k:Int)<((F.length:Nat):Int);omega) (Cq.eY m ⟨by unfold dE;simp only[List.length_append,List.length_map,List.length_take,List.length_cons,List.length_nil];simp only[small];omega,?_⟩);show _=_;rw[ψ ŉ,č d];unfold dE;rw[ĩ];rfl
 subst a;refine Cq.wp.no (by show ¬(F.length:Int)<((F.length:Nat):Int);omega) ?_;show _=_;rw[Ĥ]
end Go.EL

namespace Go.EL
open Go.IntKind (i8 i16 i32 i64 u8 u16 u32 u64)
open Go Go.RowKit
theorem Zxi:(((Β 1)++(Β 2)).all λπ=>(Β 3).any λσ=>decide (σ=π))=true:=by decide +kernel
theorem xZ{n:Nat}(h:1<=n/\n<=3){π:Fin 8->Int}(a:π∈Β n):π∈Β 3:=by
 have key:∀σ∈Β 1++Β 2,σ∈Β 3:=λσ c=>by obtain⟨τ,d,h2⟩:=dO.1 (Ć.1 Zxi σ c);rw[<-ĥ h2];exact d
 match n,h with
 |1,_=>exact key _ (List.mem_append_left _ a)
 |2,_=>exact key _ (List.mem_append_right _ a)
 |3,_=>exact a
def jT(o:Ord):Prop:=o∈kP\/∃f∈kP,∃π∈Β 3,o=dE π (eI f)
theorem RU{o:Ord}(h:sG o=true):mo o=true/\(ô o o.length).length=8:=by unfold sG at h;rw[Ĉ]at h;exact⟨h.1,ĵ h.2⟩
theorem jT.b{o:Ord}(h:jT o):mo o=true/\((ô o o.length).length=8\/o.length<=16):=by
 rcases h with h|⟨f,d,π,a,rfl⟩
 .have:=Ć.1 Zz4 o h;rw[Ĉ,Ě]at this;exact this
 obtain⟨c,h2⟩:=RU (T5 f d π a);exact⟨c,.inl h2⟩
theorem ZvH{σ τ:Fin 8->Int}(a:σ∈Β 3)(c:τ∈Β 3)(o:Ord):dE σ (dE τ o)=dE (gT σ τ) o:=by unfold dE;rw[aaa];exact ŭ λm _=>RY ⟨ĳ,ĳ⟩ a c m
theorem jT.full{o:Ord}(h:jT o):eI (eI o)=eI o/\∀π∈Β 3,jT (dE π (eI o))/\eI (dE π (eI o))=dE π (eI o):=by
 have key:∀f∈kP,∀π∈Β 3,eI (dE π (eI f))=dE π (eI f):=λf d π a=>by obtain⟨l,h2⟩:=RU (T5 f d π a);exact ą h2
 have e:(λi:Fin 8=>(i.val:Int))∈Β 3:=by rw[vj];exact aan
 have g:∀o:Ord,dE (λi=>(i.val:Int)) o=o:=λo=>by unfold dE;have:∀m∈o,fx (λi=>(i.val:Int)) m=m:=λm _=>funext λj=>tW (og ⟨ĳ,ĳ⟩ e).perm m j j rfl;rw[ŭ this,List.map_id']
 rcases h with h|⟨f,d,τ,c,rfl⟩
 .refine⟨?_,λπ a=>⟨.inr ⟨o,h,π,a,rfl⟩,key o h π a⟩⟩;have:=key o h _ e;rwa [g]at this
 rw[key f d τ c];refine⟨key f d τ c,λπ a=>?_⟩;rw[ZvH a c];have k:=(mR (n:=3) ⟨ĳ,ĳ⟩ c).1 π a;exact⟨.inr ⟨f,d,_,k,rfl⟩,key f d _ k⟩
structure eV (q:Zc):Prop where
 p:ω q.p
 o:jT q.o
theorem eV.w{q:Zc}(h:eV q):rG q:=⟨h.p,by have:=(kC.of h.o.b.1).len;omega⟩
theorem eV.nil(kind:Int):eV ⟨kind,[],[]⟩:=⟨(ω.of ĳ:ω []),.inl (by unfold kP;simp)⟩
theorem Fm{p:Ù}{n:Nat}:lC n p↔(ï p).toNat<2 ^ n:=by
 rw[<-yF,Ű];constructor
 .intro h;rcases eG.1 h with h|h
  .have:=aab n;omega
  exact h
 exact aaJ
def fg(k:Zb)(q:Zc):Bool:=decide (1<=q.kind/\q.kind<=10)&&Ð q.p k.n&&(decide (q.kind=1\/q.kind=7\/q.kind=9) || decide (q.p=[]))&&(decide (q.kind=3) || decide (q.o=[]))
theorem R5(q:Zc):(D6 q).Α (decide (q.kind=1\/q.kind=7\/q.kind=9) || decide (q.p=[])):=by
 have e:decide ((q.p.length:Int)=0)=decide (q.p=[]):=by
  cases q.p with
  |nil=>rfl
  |cons a l=>simp;omega
 by_cases c:q.kind=1
 .exact Cq.wp.yes c (Cq.wp.yes c (by show _=_;rw[ă (Or.inl c)];rfl))
 by_cases h7:q.kind=7
 .exact Cq.wp.no c (Cq.wp.yes h7 (Cq.wp.yes h7 (by show _=_;rw[ă (Or.inr (Or.inl h7))];rfl)))
 by_cases d:q.kind=9
 .exact Cq.wp.no c (Cq.wp.no h7 (Cq.wp.yes d (by show _=_;rw[ă (Or.inr (Or.inr d))];rfl)))
 refine Cq.wp.no c (Cq.wp.no h7 (Cq.wp.no d ?_));show _=_;rw[e,ĉ (p:=q.kind=1\/_) ŉ,ļ]
theorem ZvO{q:Zc}(h:eV q):(JY q).Α ((decide (q.kind=1\/q.kind=7\/q.kind=9) || decide (q.p=[]))&&(decide (q.kind=3) || decide (q.o=[]))):=by
 refine⟨true,E3 (kC.of h.o.b.1),?_⟩;cases c:q.o with
 |nil=>
  refine Cq.wp.no ĳ ?_;rw[ă (p:=([]:Ord)=[]) rfl,abA,abm];exact R5 q
 |cons a l=>
  refine Cq.wp.yes (by rw[ę];omega) ?_;rw[ĉ (p:=a::l=[]) ß,abN];by_cases h3:q.kind=3
  .refine Cq.wp.no (λe=>e h3) ?_;rw[ă h3,abm];exact R5 q
  refine Cq.wp.yes h3 ?_;show _=_;rw[ĉ h3,Bool.and_false]
theorem S0{k:Zb}(v:1<=k.n/\k.n<=4){q:Zc}(h:eV q):(ES k q).Α (fg k q):=by
 unfold fg;by_cases i:q.kind<1
 .refine Cq.wp.yes i ?_;show _=_;rw[ĉ (p:=1<=q.kind/\_) ŉ];rfl
 by_cases c:10<q.kind
 .refine Cq.wp.no i (Cq.wp.yes c ?_);show _=_;rw[ĉ (p:=1<=q.kind/\_) ŉ];rfl
 rw[ă (p:=1<=q.kind/\q.kind<=10) ŉ,ŝ];refine Cq.wp.no i (Cq.wp.no c ⟨true,DS h.p,_,yu h.p,?_⟩);obtain⟨n,s⟩:∃n:Nat,k.n=(n:Int):=⟨k.n.toNat,ŉ⟩;rw[s]at v⊢;have nH:1<=n/\n<=4:=ŉ;by_cases m:12<gf q.p
 .refine Cq.wp.yes m ?_;show _=_;have:Ð q.p (n:Int)=false:=by
   cases j:Ð q.p (n:Int)with
   |false=>rfl
   |true=>have:=(Fc j).2;omega
  rw[this];rfl
 refine Cq.wp.no m ⟨_,Fz h.p.len,ŉ,?_⟩;have x:=tX q.p;have d:∀t∈q.p,fH t.m<=12:=(tw ĳ).1 ŉ;have a:(Int.fdiv (ï q.p) (2 ^ (min (n:Int).toNat u8.bits))=0)↔(ï q.p).toNat<2 ^ n:=by
  obtain⟨u,l⟩:∃u:Nat,ï q.p=(u:Int):=⟨(ï q.p).toNat,ŉ⟩;have r:Int.fdiv (ï q.p) (2 ^ (min (n:Int).toNat u8.bits))=((u / 2 ^ n:Nat):Int):=by rw[l,Ĕ,Ž (show n<=u8.bits from ń nH.2 ĳ),aaf _ (Int.le_of_lt (Int.pow_pos ĳ))];push_cast;rfl
  rw[r,l,Ĕ];have hp:=aab n;constructor
  .intro g;have g:u / 2 ^ n=0:=ŉ;rcases eG.1 g with h|h
   .omega
   exact h
  intro g;rw[aaJ g];rfl
 by_cases f:(ï q.p).toNat<2 ^ n
 .refine Cq.wp.no (λe=>e (a.2 f)) ?_;rw[(pz ŉ).2 ⟨Fm.2 f,d⟩,ŝ];exact ZvO h
 refine Cq.wp.yes (λe=>f (a.1 e)) ?_;show _=_;have:Ð q.p (n:Int)=false:=by
  cases j:Ð q.p (n:Int)with
  |false=>rfl
  |true=>exact absurd (Fm.1 ((pz ŉ).1 j).1) f
 rw[this];rfl
end Go.EL

namespace Go.EL
open Go.IntKind (i8 i16 i32 i64 u8 u16 u32 u64)
open Go Go.RowKit
theorem Lz(kind:Int):(Eg kind).Α (decide (kind=1\/kind=7\/kind=9)):=by
 by_cases a:kind=1
 .exact Cq.wp.yes a (by show _=_;rw[ă (Or.inl a)])
 by_cases h7:kind=7
 .exact Cq.wp.no a (Cq.wp.yes h7 (by show _=_;rw[ă (Or.inr (Or.inl h7))]))
 refine Cq.wp.no a (Cq.wp.no h7 ?_);show _=_;by_cases c:kind=9
 .rw[ă c,ă (p:=kind=1\/_) ŉ]
 rw[ĉ c,ĉ (p:=kind=1\/_) ŉ]
theorem ZtA(q:Zc):(JF q).Α ((decide (q.kind=1\/q.kind=7\/q.kind=9) || decide (q.p=[]))&&(decide (q.kind=3) || decide (q.o=[]))):=by
 have key:((if(q.o.length:Int)=0 then Cq.ret true else Cq.ret (decide (q.kind=3))):Cq Bool).Α (decide (q.kind=3) || decide (q.o=[])):=by
  cases c:q.o with
  |nil=>exact Cq.wp.yes rfl (by show _=_;simp)
  |cons a l=>exact Cq.wp.no (by rw[ę];omega) (by show _=_;simp)
 cases hp:q.p with
 |nil=>
  refine Cq.wp.yes (by rw[hp];rfl) ?_;rw[ă (p:=([]:Ù)=[]) rfl,abA,ŝ];exact key
 |cons a l=>
  refine Cq.wp.no (by rw[hp,ę];omega) ⟨_,Lz _,?_⟩;rw[ĉ (p:=a::l=[]) ß,abN];cases decide (q.kind=1\/q.kind=7\/q.kind=9)with
  |false=>rfl
  |true=>rw[ŝ];exact key
theorem Zve{k:Zb}(m:1<=k.n/\k.n<=4){q:Zc}(h:eV q):(KT k q).Α (fg k q):=by
 unfold fg;by_cases f:q.kind<1
 .refine Cq.wp.yes f ?_;show _=_;rw[ĉ (p:=1<=q.kind/\_) ŉ];rfl
 by_cases a:10<q.kind
 .refine Cq.wp.no f (Cq.wp.yes a ?_);show _=_;rw[ĉ (p:=1<=q.kind/\_) ŉ];rfl
 rw[ă (p:=1<=q.kind/\q.kind<=10) ŉ,ŝ];refine Cq.wp.no f (Cq.wp.no a ⟨true,Aa h.p,_,wS h.p,?_⟩);obtain⟨n,l⟩:∃n:Nat,k.n=(n:Int):=⟨k.n.toNat,ŉ⟩;rw[l]at m⊢;have nH:1<=n/\n<=4:=ŉ;by_cases i:12<gf q.p
 .refine Cq.wp.yes i ?_;show _=_;have:Ð q.p (n:Int)=false:=by
   cases g:Ð q.p (n:Int)with
   |false=>rfl
   |true=>have:=(Fc g).2;omega
  rw[this];rfl
 have r:=tX q.p;have c:∀t∈q.p,fH t.m<=12:=(tw ĳ).1 ŉ;have e:u64.wrap (n:Int)=(n:Int):=qD ⟨ŉ,ŉ⟩;have d:i64.wrap (1*2 ^ (min (n:Int).toNat i64.bits))=((2 ^ n:Nat):Int):=by
  match n,nH with
  |1,_=>rfl
  |2,_=>rfl
  |3,_=>rfl
  |4,_=>rfl
 refine Cq.wp.no i ⟨_,z8 h.p.len,by rw[e];omega,?_⟩;rw[e,d,wrap64 ŉ];by_cases j:(ï q.p).toNat<2 ^ n
 .refine Cq.wp.no ŉ ⟨true,EC (kC.of h.o.b.1),Cq.wp.no ĳ ?_⟩;rw[(pz ŉ).2 ⟨Fm.2 j,c⟩,ŝ];exact ZtA q
 refine Cq.wp.yes ŉ ?_;show _=_;have:Ð q.p (n:Int)=false:=by
  cases g:Ð q.p (n:Int)with
  |false=>rfl
  |true=>exact absurd (Fm.1 ((pz ŉ).1 g).1) j
 rw[this];rfl
structure Þ (k:Zb):Prop where
 ok:æ k
 n3:k.n<=3
theorem Þ.nn{k:Zb}(h:Þ k):1<=k.n.toNat/\k.n.toNat<=3:=by have:=h.ok.n;have:=h.n3;omega
theorem Þ.perm{k:Zb}(h:Þ k):(â k).2∈Β k.n.toNat:=by obtain⟨ρ,a,e⟩:=(E5 k).1;rw[e];exact a
theorem Þ.mU{k:Zb}(h:Þ k):(â k).2∈Β 3:=xZ h.nn h.perm
theorem Þ.canon{k:Zb}(h:Þ k):Þ (â k).1:=by refine⟨Zvi h.ok,?_⟩;obtain⟨ρ,a,e⟩:=(E5 k).1;rw[e];show(ý k ρ).n<=3;rw[yV h.ok a];exact h.n3
theorem Þ.Um{k:Zb}(h:Þ k):(â k).1.n=k.n:=by obtain⟨ρ,a,e⟩:=(E5 k).1;rw[e];show(ý k ρ).n=k.n;rw[yV h.ok a]
def eP(q:Zc)(π:Fin 8->Int):Zc:=⟨q.kind,à π q.p,if q.kind=3 then dE π (eI q.o)else[]⟩
theorem iT{π:Fin 8->Int}(h:π∈Β 3):Ë π:=(og ⟨ĳ,ĳ⟩ h).perm
theorem SD{q:Zc}(h:eV q){π:Fin 8->Int}(a:π∈Β 3):eV (eP q π):=by
 refine⟨oD (iT a) h.p,?_⟩;unfold eP;dsimp only;split
 .exact (h.o.full.2 π a).1
 exact(eV.nil 0).o
theorem P8{q:Zc}(h:eV q){π:Fin 8->Int}(a:π∈Β 3):(D' q π).Α (eP q π,0):=by
 refine⟨_,Qx (iT a) h.p,Cq.wp.no (λe=>e rfl) ?_⟩;unfold eP;by_cases h3:q.kind=3
 .refine Cq.wp.yes h3 ⟨_,(Sg (iT a) h.o.b.1 h.o.b.2).1,Cq.wp.no (λe=>e rfl) ?_⟩;show _=_;rw[ą h3]
 refine Cq.wp.no h3 ?_;show _=_;rw[ā h3]
def gu(k:Zb)(q:Zc):ZE:=if fg k q=true then⟨(â k).1,eP q (â k).2,0⟩else⟨iK,⟨0,[],[]⟩,1⟩
theorem J6{k:Zb}{q:Zc}(c:Þ k)(h:eV q):(AO k q).Α (gu k q):=by
 have a:=c.mU;refine⟨true,J7 c.ok,_,Zve c.ok.n h,?_⟩;unfold gu;cases hr:fg k q with
 |false=>exact Cq.wp.yes rfl (by show _=_;rw[ā ĳ];rfl)
 |true=>
  rw[ą rfl];refine Cq.wp.no ĳ ⟨_,Zu6 c.ok,_,Je (iT a) h.p,?_⟩;unfold eP;by_cases h3:q.kind=3
  .refine Cq.wp.yes h3 ⟨_,(Sg (iT a) h.o.b.1 h.o.b.2).2,Cq.wp.no (λe=>e rfl) ?_⟩;show _=_;rw[ą h3]
  refine Cq.wp.no h3 (Cq.wp.no (λe=>e rfl) ?_);show _=_;rw[ā h3]
structure kV (t:Ze):Prop where
 k:jq t.k
 q:rG t.q
def ot(k:Zb)(q:Zc)(t:Ze):Bool:=decide (ÿ t.k=ÿ k)&&decide (hL t.q=hL q)
def Gq(l:Ŀ Ze)(k:Zb)(q:Zc):Int:=match l.findIdx? (ot k q)with
 |some i=>(i:Int)
 |none=>-1
theorem Vc{b:Zd}(u:b.t.length<=1000)(h:∀t∈b.t,kV t){k:Zb}{q:Zc}(p:jq k)(r:rG q):(Gh b k q).Α (Gq b.t k q):=by
 have key:∀(m i:Nat),m+i=b.t.length->(E9 b k q (i:Int)).wp λo=>o=(match(b.t.drop i).findIdx? (ot k q)with|some j=>.inl ((i+j:Nat):Int)|none=>.inr ()):=by
  intro m;induction m with
  |zero=>
   intro i hi;refine Cq.Zr (Cq.wp.no ŉ ?_);rw[Ķ ŉ];rfl
  |succ m s=>
   intro i hi;have c:i<b.t.length:=ŉ;have n:=h _ (Ă c);have l:b.t.drop i=b.t[i]::b.t.drop (i+1):=ĭ c;have a:ot k q b.t[i]=false->(E9 b k q ((i+1:Nat):Int)).wp λo=>o=(match(b.t.drop i).findIdx? (ot k q)with|some j=>.inl ((i+j:Nat):Int)|none=>.inr ()):=λe=>by
    refine Cq.mono _ (λo g=>?_) (s (i+1) ŉ);rw[g,l,List.findIdx?_cons,e];cases(b.t.drop (i+1)).findIdx? (ot k q)with
    |none=>rfl
    |some j=>show Sum.inl ((i+1+j:Nat):Int)=Sum.inl ((i+(j+1):Nat):Int);rw[show i+1+j=i+(j+1) by omega]
   refine Cq.Zr (Cq.wp.yes ŉ ⟨_,Κ c,_,KU n.k p,?_⟩);cases f:decide (ÿ b.t[i].k=ÿ k)with
   |false=>
    show(Cq.loop _ _).wp _;rw[ψ ŉ];exact a (by unfold ot;rw[f];rfl)
   |true=>
    refine⟨_,Κ c,_,Sr n.q r,?_⟩;cases d:decide (hL b.t[i].q=hL q)with
    |true=>
     refine Cq.wp.yes rfl ?_;show _=_;rw[l,List.findIdx?_cons,show ot k q b.t[i]=true by unfold ot;rw[f,d];rfl];rfl
    |false=>
     refine Cq.wp.no ĳ ?_;show(Cq.loop _ _).wp _;rw[ψ ŉ];exact a (by unfold ot;rw[f,d];rfl)
 show(Cq.next _ _).wp _;refine Cq.mono (E9 b k q 0) (λo g=>?_) (key b.t.length 0 ŉ);rw[g,aba];unfold Gq;cases b.t.findIdx? (ot k q)with
 |none=>rfl
 |some j=>show _=_;rw[Ō]
end Go.EL

namespace Go.EL
open Go.IntKind (i8 i16 i32 i64 u8 u16 u32 u64)
open Go Go.RowKit
abbrev qM:Fin 8->Int:=λi=>(i.val:Int)
theorem ZtG{k:Zb}(h:æ k):â (â k).1=((â k).1,qM):=by
 have l:1<=k.n.toNat/\k.n.toNat<=4:=by have:=h.n;omega
 obtain⟨⟨ρ,d,m⟩,n⟩:=E5 k;have f:(â k).1=ý k ρ:=by rw[m]
 have g:(â k).1.n=k.n:=by rw[f,yV h d]
 have i:qM∈Β k.n.toNat:=by rw[vj];exact aan
 have c:ý (â k).1 qM=(â k).1:=by rw[f,RX h i d,id_comp l d]
 have j:∀π∈Β k.n.toNat,¬Op.bytesLess (ÿ (ý (â k).1 π)).toList (ÿ (â k).1).toList=true:=λπ a=>by rw[show ý (â k).1 π=ý k (gT π ρ) by rw[f,RX h a d]];exact n _ ((mR l d).1 π a)
 have e:â (â k).1=fi (â k).1 (Β (â k).1.n.toNat).tail (ý (â k).1 qM,qM):=rfl;rw[e,c,g];exact SB _ _ _ λπ a=>j π (List.mem_of_mem_tail a)
theorem Nn:qM∈Β 3:=by rw[vj];exact aan
theorem Zyt(o:Ord):dE qM o=o:=by unfold dE;have:∀m∈o,fx qM m=m:=λm _=>funext λj=>tW (iT Nn) m j j rfl;rw[ŭ this,List.map_id']
theorem ZpJ{q:Zc}(h:eV q){π:Fin 8->Int}(a:π∈Β 3):eP (eP q π) qM=eP q π:=by
 have hp:=Zyu (n:=3) ⟨ĳ,ĳ⟩ (oD (iT a) h.p);show Zc.mk q.kind (à qM (à π q.p)) (if q.kind=3 then dE qM (eI (if q.kind=3 then dE π (eI q.o)else[]))else[])=Zc.mk q.kind (à π q.p) (if q.kind=3 then dE π (eI q.o)else[]);rw[hp];by_cases h3:q.kind=3
 .rw[ą h3,ą h3,Zyt,(h.o.full.2 π a).2]
 rw[ā h3,ā h3]
theorem Ld{kind:Int}{x:Zc}(h:x∈ò kind):x=⟨x.kind,[],[]⟩/\(x.kind=4\/x.kind=5\/x.kind=6):=by
 unfold ò at h;split at h
 .rw[Ē.1 h];exact⟨rfl,ĳ⟩
 split at h
 .rw[Ē.1 h];exact⟨rfl,ĳ⟩
 split at h
 .rw[Ē.1 h];exact⟨rfl,ĳ⟩
 cases h
theorem Am{kind:Int}{x:Zc}(h:x∈ò kind)(π:Fin 8->Int):eP x π=x:=by obtain⟨e,a⟩:=Ld h;rw[e];show Zc.mk x.kind (à π []) (if x.kind=3 then _ else[])=_;rw[ā ŉ,Sh]
theorem An{kind:Int}{x:Zc}(h:x∈ò kind){k:Zb}(c:æ k):fg k x=true:=by
 obtain⟨e,g⟩:=Ld h;have f:Ð [] k.n=true:=by obtain⟨n,d⟩:∃n:Nat,k.n=(n:Int):=⟨k.n.toNat,by have:=c.n;omega⟩;have:=c.n;rw[d];exact(pz ŉ).2 ⟨λt a=>(nomatch a),λt a=>(nomatch a)⟩
 rw[e];unfold fg;dsimp only;rw[f,ă (p:=1<=x.kind/\x.kind<=10) ŉ];simp
theorem A9{kind:Int}{x:Zc}(h:x∈ò kind):eV x:=by rw[(Ld h).1];exact eV.nil _
def wA(k:Zb):Prop:=Þ k/\â k=(k,qM)
theorem Þ.can{k:Zb}(h:Þ k):wA (â k).1:=⟨h.canon,ZtG h.ok⟩
structure iM (k:Zb) (q:Zc):Prop where
 ck:wA k
 cq:eV q
 self:eP q qM=q
 right:fg k q=true
theorem ZwP{k:Zb}(h:Þ k){p:Ù}(hp:ω p)(c:Ð p k.n=true):Ð (à (â k).2 p) (â k).1.n=true:=by rw[h.Um];have d:=h.ok.n;obtain⟨n,a⟩:∃n:Nat,k.n=(n:Int):=⟨k.n.toNat,ŉ⟩;rw[a]at c⊢;have:=h.perm;rw[a,Ĕ]at this;exact SP ŉ (og ŉ this) hp c
theorem ZtR{k:Zb}(h:Þ k){q:Zc}(e:eV q)(hr:fg k q=true):fg (â k).1 (eP q (â k).2)=true:=by
 unfold fg at hr⊢;simp only[Ĉ]at hr⊢;obtain⟨⟨⟨c,h2⟩,h3⟩,d⟩:=hr;refine⟨⟨⟨c,ZwP h e.p h2⟩,?_⟩,?_⟩
 .rw[Ĵ]at h3⊢;rcases h3 with h3|h3
  .exact .inl h3
  refine .inr (ă ?_);show à _ q.p=[];rw[ĥ h3,Sh]
 rw[Ĵ]at d⊢;by_cases a:q.kind=3
 .exact .inl (ă a)
 refine .inr (ă ?_);show(if q.kind=3 then _ else[])=([]:Ord);rw[ā a]
theorem iM.of{k:Zb}(h:Þ k){q:Zc}(a:eV q)(hr:fg k q=true):iM (â k).1 (eP q (â k).2):=
 ⟨h.can,SD a h.mU,ZpJ a h.mU,ZtR h a hr⟩
theorem iM.lO{k:Zb}(h:wA k){kind:Int}{x:Zc}(a:x∈ò kind):iM k x:=⟨h,A9 a,Am a _,An a h.1.ok⟩
theorem iM.gu{k:Zb}{q:Zc}(h:iM k q):gu k q=⟨k,q,0⟩:=by unfold EL.gu;rw[ą h.right,h.ck.2,h.self]
theorem TM{k m:Zb}{p q:Zc}(a:æ k)(c:æ m):(ÿ k=ÿ m/\hL p=hL q)↔gV k p=gV m q:=⟨λh=>by unfold gV;rw[h.1,h.2],λh=>Vw a c h⟩
end Go.EL

namespace Go.EL
open Go.IntKind (i8 i16 i32 i64 u8 u16 u32 u64)
open Go Go.RowKit
abbrev eZ(t:Ze):Ĳ:=gV t.k t.q
structure ç (B:Zd):Prop where
 can:∀t∈B.t,iM t.k t.q
 ids:∀i (h:i<B.t.length),B.t[i].id=(i:Int)+1
 next:B.next=(B.t.length:Int)+1
 Ü:B.t.Pairwise λs t=>eZ s≠eZ t
 lO:∀i (h:i<B.t.length),∀x∈ò B.t[i].q.kind,∃j,∃(h2:j<B.t.length),j<i/\eZ B.t[j]=gV B.t[i].k x
 num:∀t∈B.t,(0<=t.χ/\t.χ<=13)/\0<=t.low/\-1<=t.high
def er(l:Ŀ Ze)(s:Ĳ):ŀ Ze:=l.find? λt=>decide (eZ t=s)
theorem KF{l:Ŀ Ze}{s:Ĳ}{t:Ze}(h:er l s=some t):t∈l/\eZ t=s:=⟨dV h,by simpa using aaR h⟩
theorem RM{l:Ŀ Ze}{s:Ĳ}(h:er l s=none):∀t∈l,eZ t≠s:=λt a e=>by have:=List.find?_eq_none.1 h t a;exact this (ă e)
theorem Zvp(l:Ŀ Ze)(t:Ze)(s:Ĳ):er (l++[t]) s=match er l s with|some u=>some u|none=>if eZ t=s then some t else none:=by
 unfold er;rw[abi];cases l.find? λt=>decide (eZ t=s)with
 |some u=>rfl
 |none=>
  simp only[Option.none_or,abC,List.find?_nil];by_cases h:eZ t=s
  .rw[ă h,ą h]
  rw[ĉ h,ā h]
def lr(B:Zd)(c:Zb)(q:Zc):Ze:=⟨B.next,c,q,0,0,-1,false⟩
def ie(B:Zd)(c:Zb)(q:Zc):Zd×Int:=match er B.t (gV c q)with
 |some t=>(B,t.id)
 |none=>(⟨B.t++[lr B c q],B.next+1⟩,B.next)
def ib:Nat->Zd->Zb->Zc->Zd×Int
 |0,B,_,_=>(B,0)
 |n+1,B,c,q=>ie ((ò q.kind).foldl (λb x=>(ib n b c x).1) B) c q
def kq(kind:Int):Nat:=if kind=7 then 4 else if kind=6\/kind=10 then 3 else if kind=5\/kind=8 then 2 else 1
theorem tu(kind:Int):(ò kind=[]/\1<=kq kind)\/∃x,ò kind=[x]/\kq x.kind+1<=kq kind:=by
 unfold ò;split
 .refine .inr ⟨_,rfl,?_⟩;rename_i h;rcases h with rfl|rfl<;>decide
 split
 .refine .inr ⟨_,rfl,?_⟩;rename_i h;rcases h with rfl|rfl<;>decide
 split
 .refine .inr ⟨_,rfl,?_⟩;rename_i h;subst h;decide
 refine .inl ⟨rfl,?_⟩;unfold kq;repeat' split
 all_goals decide
structure Grown (B B':Zd) (m:Nat):Prop where
 ok:ç B'
 pre:B.t <+: B'.t
 len:B'.t.length<=B.t.length+m
theorem Ua{B:Zd}(h:ç B){c:Zb}{q:Zc}(p:iM c q)(u:∀x∈ò q.kind,∃t∈B.t,eZ t=gV c x):
  Grown B (ie B c q).1 1/\∃t∈(ie B c q).1.t,eZ t=gV c q/\t.id=(ie B c q).2:=by
 unfold ie
 cases k:er B.t (gV c q)with
 |some t=>
  obtain⟨m,h2⟩:=KF k
  exact⟨⟨h,List.prefix_rfl,Nat.le_succ _⟩,t,m,h2,rfl⟩
 |none=>
  have g:=RM k
  have f:(B.t++[lr B c q]).length=B.t.length+1:=by rw[Ā];rfl
  refine⟨⟨⟨λt a=>?_,λi hi=>?_,?_,?_,λi hi x d=>?_,λt a=>?_⟩,List.prefix_append _ _,by rw[f];exact Ċ _⟩,lr B c q,ß,rfl,rfl⟩
  .rcases Ĩ.1 a with a|a
   .exact h.can t a
   rw[Ē.1 a];exact p
  .have hi:i<(B.t++[lr B c q]).length:=hi
   rw[f]at hi
   show(B.t++[lr B c q])[i].id=_
   by_cases e:i<B.t.length
   .rw[ew e];exact h.ids i e
   have:i=B.t.length:=ŉ
   subst this
   rw[abd (Ċ _)]
   simp only[aaW,dz]
   exact h.next
  .show B.next+1=((B.t++[lr B c q]).length:Int)+1
   rw[f,h.next];rfl
  .rw[ek]
   refine⟨h.Ü,ũ _ _,λs v t a=>?_⟩
   rw[Ē.1 a]
   exact g s v
  .have kr:i<(B.t++[lr B c q]).length:=hi
   rw[f]at kr
   have d:x∈ò ((B.t++[lr B c q])[i]).q.kind:=d
   show ∃j,∃(h2:j<(B.t++[lr B c q]).length),j<i/\eZ (B.t++[lr B c q])[j]=gV (B.t++[lr B c q])[i].k x
   by_cases e:i<B.t.length
   .rw[ew e]at d⊢
    obtain⟨j,h2,h3,n⟩:=h.lO i e x d
    exact⟨j,ŉ,h3,by rw[ew h2];exact n⟩
   have:i=B.t.length:=ŉ
   subst this
   rw[abd (Ċ _)]at d⊢
   simp only[aaW,dz]at d⊢
   obtain⟨t,a,r⟩:=u x d
   obtain⟨j,l,e⟩:=Ł.1 a
   exact⟨j,ŉ,l,by rw[ew l,e];exact r⟩
  rcases Ĩ.1 a with a|a
  .exact h.num t a
  rw[Ē.1 a];exact⟨⟨by show(0:Int)<=0;omega,by show(0:Int)<=13;omega⟩,by show(0:Int)<=0;omega,by show(-1:Int)<=-1;omega⟩
theorem Grown.trans{A B C:Zd}{m n:Nat}(h:Grown A B m)(k:Grown B C n):Grown A C (m+n):=⟨k.ok,h.pre.trans k.pre,by have:=h.len;have:=k.len;omega⟩
theorem Grown.up{A B:Zd}{m n:Nat}(h:Grown A B m)(k:m<=n):Grown A B n:=⟨h.ok,h.pre,by have:=h.len;omega⟩
theorem FA:∀{n:Nat}{B:Zd}{c:Zb}{q:Zc},kq q.kind<=n->ç B->iM c q->Grown B (ib n B c q).1 (kq q.kind)/\∃t∈(ib n B c q).1.t,eZ t=gV c q/\t.id=(ib n B c q).2
 |0,_,_,q,r,_,_=>by
  rcases tu q.kind with ⟨_,h⟩|⟨x,_,h⟩<;>omega
 |n+1,B,c,q,r,k,g=>by
  have e:ib (n+1) B c q=ie ((ò q.kind).foldl (λb x=>(ib n b c x).1) B) c q:=rfl;rw[e];rcases tu q.kind with ⟨a,f⟩|⟨x,a,f⟩
  .rw[a];obtain⟨i,k2⟩:=Ua k g (λx d=>by rw[a]at d;cases d);exact⟨i.up f,k2⟩
  rw[a];have d:x∈ò q.kind:=by rw[a];exact Ē.2 rfl
  obtain⟨j,t,m,p,s⟩:=FA (n:=n) (B:=B) (c:=c) (q:=x) ŉ k (iM.lO g.ck d);obtain⟨i,k2⟩:=Ua j.ok g (λy l=>by rw[a,Ē]at l;subst l;exact⟨t,m,p⟩);exact⟨(j.trans i).up f,k2⟩
end Go.EL

namespace Go.EL
open Go.IntKind (i8 i16 i32 i64 u8 u16 u32 u64)
open Go Go.RowKit
theorem AY{K V:Type}[DecidableEq K]:∀(D:Ŀ (K×V)) (k:K) (x:V),(eS D k x).length<=D.length+1
 |[],_,_=>Ċ _
 |p::D,k,x=>by have:=AY D k x;unfold eS;split<;>simp only[ę]<;>omega
structure kn (D:Ŀ (Ĳ×Int)) (l:Ŀ Ze):Prop where
 get:∀s,fb D s=(er l s).map (·.id)
 len:D.length<=l.length
theorem kn.snoc{D:Ŀ (Ĳ×Int)}{l:Ŀ Ze}(h:kn D l){t:Ze}(a:er l (eZ t)=none):kn (eS D (eZ t) t.id) (l++[t]) where
 get s:=by
  rw[yP,Zvp,h.get];by_cases e:eZ t=s
  .subst e;rw[ą rfl,a];simp
  rw[ā e];cases er l s with
  |none=>simp[e]
  |some u=>rfl
 len:=by have:=AY D (eZ t) t.id;have:=h.len;rw[Ā];show _<=l.length+1;omega
theorem ç.pN{B:Zd}(h:ç B){t:Ze}(a:t∈B.t):æ t.k/\rG t.q:=⟨(h.can t a).ck.1.ok,(h.can t a).cq.w⟩
theorem TR{B:Zd}(h:ç B)(m:B.t.length<=98){D:Ŀ (Ĳ×Int)}(a:kn D B.t){c:Zb}{q:Zc}(d:iM c q):
  ∃g,kn g (ie B c q).1.t/\(tb c q D B).Α (((ie B c q).2,0),g,(ie B c q).1):=by
 have i:=yZ d.ck.1.ok d.cq.w
 have j:=yU d.ck.1.ok d.cq.w
 have e:=a.get (gV c q)
 unfold ie
 cases f:er B.t (gV c q)with
 |some t=>
  rw[f]at e
  refine⟨D,a,_,i,j,?_⟩
  rw[show fb D (gV c q)=some t.id from e]
  rfl
 |none=>
  rw[f]at e
  have k:=h.next
  refine⟨eS D (gV c q) B.next,a.snoc (t:=lr B c q) f,_,i,j,?_⟩
  rw[show fb D (gV c q)=none from e]
  have l:=AY D (gV c q) B.next
  have h2:=a.len
  refine⟨⟨⟨ŉ,ŉ⟩,by simp only[small];omega⟩,?_⟩
  show _=_
  rw[wrap64 ŉ]
  rfl
theorem Vx:∀{n:Nat}{B:Zd}{c:Zb}{q:Zc}{D:Ŀ (Ĳ×Int)},kq q.kind<=n->ç B->iM c q->kn D B.t->B.t.length+kq q.kind<=99->
  ∃a,kn a (ib n B c q).1.t/\(vc n c q D B).Α (((ib n B c q).2,0),a,(ib n B c q).1)
 |0,_,_,q,_,r,_,_,_,_=>by
  rcases tu q.kind with ⟨_,h⟩|⟨x,_,h⟩<;>omega
 |n+1,B,c,q,D,r,i,j,m,A=>by
  have e:ib (n+1) B c q=ie ((ò q.kind).foldl (λb x=>(ib n b c x).1) B) c q:=rfl;have g:=(AI q).1;rw[e];rcases tu q.kind with ⟨f,p⟩|⟨x,f,p⟩
  .rw[f]at g⊢;obtain⟨a,k,k2⟩:=TR i ŉ m j;exact⟨a,k,_,g,k2⟩
  have s:x∈ò q.kind:=by rw[f];exact Ē.2 rfl
  have d:=iM.lO j.ck s;rw[f]at g⊢;obtain⟨v,t,u⟩:=Vx (n:=n) (B:=B) (c:=c) (q:=x) (D:=D) ŉ i d m ŉ;obtain⟨l,_⟩:=FA (n:=n) (B:=B) (c:=c) (q:=x) ŉ i d;have y:=l.len;obtain⟨a,k,k2⟩:=TR l.ok ŉ t j;exact⟨a,k,_,g,_,u,rfl,k2⟩
theorem ZzY{B:Zd}(h:ç B)(y:B.t.length<=1000):∃D,kn D B.t/\(EF B (0,[])).Α D:=by
 have key:∀k,k<=B.t.length->∃D,kn D (B.t.take k)/\∀E,(EF B ((k:Int),D)).Α E->(EF B (0,[])).Α E:=by
  intro k;induction k with
  |zero=>intro _;exact⟨[],⟨λs=>rfl,Ċ _⟩,λE d=>d⟩
  |succ k r=>
   intro x;obtain⟨D,c,h2⟩:=r ŉ;have a:k<B.t.length:=ŉ;have q:=Ă a;obtain⟨l,m⟩:=h.pN q;have f:er (B.t.take k) (eZ B.t[k])=none:=by
    cases n:er (B.t.take k) (eZ B.t[k])with
    |none=>rfl
    |some u=>
     obtain⟨t,v⟩:=KF n;obtain⟨j,p,e⟩:=Ł.1 t;rw[Č]at p;rw[aae]at e;exact absurd (by rw[e];exact v) (ħ.1 h.Ü j k ŉ a ŉ)
   have g:=c.snoc f;rw[<-č a]at g;have i:=g.len;rw[Č]at i;refine⟨_,g,λE d=>h2 E (Cq.Zr (Cq.wp.yes ŉ ⟨_,Κ a,_,yZ l m,⟨yU l m,by show(eS D (eZ B.t[k]) B.t[k].id).length<=small;simp only[small];omega⟩,?_⟩))⟩;show(Cq.loop _ _).wp _;rw[ψ ŉ];exact d
 obtain⟨D,c,h2⟩:=key B.t.length (Ċ _);rw[Ĥ]at c;exact⟨D,c,h2 D (Cq.Zr (Cq.wp.no ŉ rfl))⟩
theorem Mk(kind:Int):kq kind<=4:=by
 unfold kq;repeat' split
 all_goals decide
def gG(B:Zd)(k:Zb)(q:Zc):Zd×Int×Int:=if fg k q=true then((ib 5 B (â k).1 (eP q (â k).2)).1,(ib 5 B (â k).1 (eP q (â k).2)).2,0)else(⟨[],0⟩,0,1)
theorem A0{B:Zd}(h:ç B)(l:B.t.length<=95){k:Zb}{q:Zc}(a:Þ k)(c:eV q):(xt B k q).Α (gG B k q):=by
 refine⟨true,E4 a.ok,_,S0 a.ok.n c,?_⟩;unfold gG;cases hr:fg k q with
 |false=>exact Cq.wp.yes rfl (by show _=_;rw[ā ĳ])
 |true=>
  rw[ą rfl];refine Cq.wp.no ĳ ?_;have f:=iM.of a c hr;have g:kq (eP q (â k).2).kind<=4:=Mk _;obtain⟨D,d,i⟩:=ZzY h ŉ;obtain⟨j,_,h2⟩:=Vx (n:=5) (B:=B) (D:=D) ŉ h f d ŉ;refine⟨_,SQ a.ok,_,P8 c a.mU,Cq.wp.no (λe=>e rfl) (Cq.eY i ⟨B.t,⟨λe=>by rw[e];rfl,by rw[Ļ];simp only[small];omega,rfl⟩,_,h2,Cq.wp.no (λe=>e rfl) rfl⟩)⟩
theorem ZzP{c:Zb}{q:Zc}(d:æ c){t:Ze}(f:æ t.k):ot c q t=decide (eZ t=gV c q):=by
 unfold ot;by_cases e:eZ t=gV c q
 .obtain⟨a,h2⟩:=(TM f d).2 e;rw[ă a,ă h2,ă e];rfl
 rw[ĉ e];by_cases a:ÿ t.k=ÿ c
 .rw[ă a,ĉ (λh2=>e ((TM f d).1 ⟨a,h2⟩))];rfl
 rw[ĉ a];rfl
theorem Me{c:Zb}{q:Zc}(a:æ c):∀{l:Ŀ Ze},(∀t∈l,æ t.k)->er l (gV c q)=(l.findIdx? (ot c q)).bind λi=>l[i]?
 |[],_=>rfl
 |t::l,h=>by
  have d:=Me (q:=q) a (l:=l) λu e=>h u (by simp[e]);rw[List.findIdx?_cons,ZzP a (h t ß)];unfold er at d⊢;rw[abC];cases decide (eZ t=gV c q)with
  |true=>rfl
  |false=>
   rw[d];cases l.findIdx? (ot c q)with
   |none=>rfl
   |some i=>simp
theorem ç.od{B:Zd}(h:ç B):∀t∈B.t,kV t:=λt a=>⟨(h.can t a).ck.1.ok.qV,(h.can t a).cq.w⟩
theorem Ve{B:Zd}(h:ç B)(k:B.t.length<=98){c:Zb}{q:Zc}(f:iM c q)(e:Int):(Qf ⟨c,q,e⟩ B).Α ⟨(ie B c q).1,(ie B c q).2,0⟩:=by
 refine⟨_,Vc ŉ h.od f.ck.1.ok.qV f.cq.w,?_⟩;have a:=Me (q:=q) f.ck.1.ok (l:=B.t) λt j=>(h.pN j).1;unfold Gq ie;cases hi:B.t.findIdx? (ot c q)with
 |none=>
  rw[hi]at a;have a:er B.t (gV c q)=none:=a;rw[a];have g:=h.next;refine Cq.wp.no ĳ (Cq.wp.no ŉ (Cq.wp.no ŉ ⟨by rw[Ļ];simp only[small];omega,by simp only[Ļ,Ā,ę,ķ];simp only[small];omega,?_⟩));show _=_;rw[wrap64 ŉ,Ļ];rfl
 |some i=>
  rw[hi]at a;obtain⟨d,_⟩:=aat.1 hi;have a:er B.t (gV c q)=some B.t[i]:=by rw[a];exact Ą d
  rw[a];exact Cq.wp.yes (show(0:Int)<=(i:Int) by omega) ⟨_,Κ d,rfl⟩
theorem Sw:∀{n:Nat}{B:Zd}{k c:Zb}{p q:Zc},kq q.kind<=n->ç B->iM c q->(AO k p).Α ⟨c,q,0⟩->B.t.length+kq q.kind<=99->
  (AN n B k p).Α ⟨(ib n B c q).1,(ib n B c q).2,0⟩
 |0,_,_,_,_,q,r,_,_,_,_=>by
  rcases tu q.kind with ⟨_,h⟩|⟨x,_,h⟩<;>omega
 |n+1,B,k,c,p,q,r,g,i,hr,v=>by
  have e:ib (n+1) B c q=ie ((ò q.kind).foldl (λb x=>(ib n b c x).1) B) c q:=rfl;have m:=(AI q).2;rw[e];refine⟨_,hr,Cq.wp.no (λe=>e rfl) ⟨_,m,?_⟩⟩;show(Cq.next _ _).wp _;rcases tu q.kind with ⟨f,l⟩|⟨x,f,l⟩
  .rw[f];exact Cq.Zr (Cq.wp.no ĳ (Ve g ŉ i 0))
  have s:x∈ò q.kind:=by rw[f];exact Ē.2 rfl
  have a:=iM.lO i.ck s;rw[f];have d:=J6 a.ck.1 a.cq;rw[a.gu]at d;have t:=Sw (n:=n) (B:=B) (k:=c) (c:=c) (p:=x) (q:=x) ŉ g a d ŉ;obtain⟨j,_⟩:=FA (n:=n) (B:=B) (c:=c) (q:=x) ŉ g a;have u:=j.len;exact Cq.Zr (Cq.wp.yes (show(0:Int)<((1:Nat):Int) by decide) ⟨x,⟨ĳ,rfl⟩,_,t,Cq.wp.no (λe=>e rfl) (Cq.Zr (Cq.wp.no (show ¬i64.wrap (0+1)<((1:Nat):Int) by decide) (Ve j.ok ŉ i 0)))⟩)
theorem ZxV{B:Zd}(h:ç B)(i:B.t.length<=95){k:Zb}{q:Zc}(d:Þ k)(e:eV q):(AN 5 B k q).Α ⟨(gG B k q).1,(gG B k q).2.1,(gG B k q).2.2⟩:=by
 have a:=J6 d e;unfold gG;cases hr:fg k q with
 |false=>
  have c:gu k q=⟨iK,⟨0,[],[]⟩,1⟩:=by unfold gu;rw[hr];rfl
  rw[c]at a;exact⟨_,a,Cq.wp.yes ĳ rfl⟩
 |true=>
  have c:gu k q=⟨(â k).1,eP q (â k).2,0⟩:=by unfold gu;rw[if_pos hr]
  rw[c]at a;have f:=iM.of d e hr;have g:kq (eP q (â k).2).kind<=4:=Mk _;rw[ą rfl];exact Sw (n:=5) ŉ h f a ŉ
end Go.EL

namespace Go.EL
open Go.IntKind (i8 i16 i32 i64 u8 u16 u32 u64)
open Go Go.RowKit
structure pr (t:Ze):Prop where
 xk:Þ t.k\/t.k=iK
 xq:eV t.q
theorem Zze:¬Þ iK:=λh=>absurd h.ok.n.1 ĳ
def pn(t:Ze):Prop:=((0<=t.χ/\t.χ<=13)/\0<=t.low/\-1<=t.high)/\Þ t.k/\fg t.k t.q=true/\ÿ (â t.k).1=ÿ t.k/\hL (eP t.q (â t.k).2)=hL t.q
theorem ZsO:(vb iK).Α false:=⟨false,Cq.wp.no ĳ rfl,rfl⟩
theorem Zxm{t:Ze}(h:pr t):(Kt t).wp λb=>(b=true↔pn t):=by
 by_cases c:t.χ<0
 .refine Cq.wp.yes c ⟨λe=>(nomatch e),λp=>?_⟩;have:=p.1.1.1;omega
 by_cases d:13<t.χ
 .refine Cq.wp.no c (Cq.wp.yes d ⟨λe=>(nomatch e),λp=>?_⟩);have:=p.1.1.2;omega
 by_cases g:t.low<0
 .refine Cq.wp.no c (Cq.wp.no d (Cq.wp.yes g ⟨λe=>(nomatch e),λp=>?_⟩));have:=p.1.2.1;omega
 by_cases i:t.high < -1
 .refine Cq.wp.no c (Cq.wp.no d (Cq.wp.no g (Cq.wp.yes i ⟨λe=>(nomatch e),λp=>?_⟩)));have:=p.1.2.2;omega
 refine Cq.wp.no c (Cq.wp.no d (Cq.wp.no g (Cq.wp.no i ?_)));have j:(0<=t.χ/\t.χ<=13)/\0<=t.low/\-1<=t.high:=ŉ;rcases h.xk with a|a
 .refine⟨true,E4 a.ok,_,S0 a.ok.n h.xq,?_⟩;cases hr:fg t.k t.q with
  |false=>exact Cq.wp.yes rfl ⟨λe=>(nomatch e),λp=>by have:=p.2.2.1;rw[hr]at this;cases this⟩
  |true=>
   refine Cq.wp.no ĳ ⟨_,SQ a.ok,_,y4 a.canon.ok,_,y4 a.ok,?_⟩;by_cases f:ÿ (â t.k).1=ÿ t.k
   .refine Cq.wp.no (λe=>e f) ⟨_,P8 h.xq a.mU,Cq.wp.yes rfl ⟨_,L7 (SD h.xq a.mU).w,_,L7 h.xq.w,?_⟩⟩;exact⟨λe=>⟨j,a,hr,f,ĥ e⟩,λp=>ă p.2.2.2.2⟩
   exact Cq.wp.yes f ⟨λe=>(nomatch e),λp=>absurd p.2.2.2.1 f⟩
 rw[show JD t=Cq.bind (vb t.k) _ from rfl,a];exact⟨false,ZsO,⟨λe=>(nomatch e),λp=>absurd (a ▸ p.2.1) Zze⟩⟩
structure zY (B:Zd) (i:Nat) (t:Ze):Prop where
 WH:1<=t.id
 idn:t.id<B.next
 inc:∀j (h:j<B.t.length),j+1=i->B.t[j].id<t.id
 prop:pn t
 Ü:∀j (h:j<B.t.length),j<i->eZ B.t[j]≠eZ t
 lO:∀x∈ò t.q.kind,∃j,∃(h:j<B.t.length),j<i/\eZ B.t[j]=gV t.k x
def u2(B:Zd):Prop:=∀i (h:i<B.t.length),zY B i B.t[i]
def rK(B:Zd):Prop:=(B.t.length<=100/\1<=B.next/\B.next<=1000000)/\u2 B
def z1(A:Prop):Bool⊕Unit->Prop
 |.inl b=>b=false/\¬A
 |.inr ()=>A
structure nN (D:Ŀ (Ĳ×Bool)) (B:Zd) (i:Nat):Prop where
 get:∀s,(fb D s).getD false=true↔∃j,∃(h:j<B.t.length),j<i/\eZ B.t[j]=s
 len:D.length<=i
theorem nN.step{D:Ŀ (Ĳ×Bool)}{B:Zd}{i:Nat}(h:nN D B i)(hi:i<B.t.length):nN (eS D (eZ B.t[i]) true) B (i+1) where
 get s:=by
  rw[yP];by_cases e:eZ B.t[i]=s
  .rw[ą e];exact⟨λ_=>⟨i,hi,Ų _,e⟩,λ_=>rfl⟩
  rw[ā e,h.get];constructor
  .rintro⟨j,a,h2,h3⟩;exact⟨j,a,ŉ,h3⟩
  rintro⟨j,a,h2,h3⟩;by_cases c:j=i
  .subst c;exact absurd h3 e
  exact⟨j,a,ŉ,h3⟩
 len:=by have:=AY D (eZ B.t[i]) true;have:=h.len;omega
theorem Zz1{B:Zd}{i:Nat}{D:Ŀ (Ĳ×Bool)}(e:nN D B i){t:Ze}(f:Þ t.k):
  (JX D t (ò t.q.kind) 0).wp (z1 (∀x∈ò t.q.kind,∃j,∃(h:j<B.t.length),j<i/\eZ B.t[j]=gV t.k x)):=by
 rcases tu t.q.kind with ⟨a,_⟩|⟨x,a,_⟩
 .rw[a]
  exact Cq.Zr (Cq.wp.no ĳ (λx d=>(nomatch d)))
 have d:x∈ò t.q.kind:=by rw[a];exact Ē.2 rfl
 have g:=(A9 d).w
 rw[a]
 refine Cq.Zr (Cq.wp.yes (show(0:Int)<((1:Nat):Int) by decide) ⟨x,⟨ĳ,rfl⟩,_,yZ f.ok g,yU f.ok g,?_⟩)
 by_cases c:(fb D (gV t.k x)).getD false=true
 .refine Cq.wp.no (by rw[c];decide) (Cq.Zr (Cq.wp.no (show ¬i64.wrap (0+1)<((1:Nat):Int) by decide) (λy l=>?_)))
  rw[Ē.1 l]
  exact(e.get _).1 c
 refine Cq.wp.yes (by rw[ź.2 c];rfl) ⟨rfl,λk=>c ((e.get _).2 (k x (Ē.2 rfl)))⟩
theorem Q8{B:Zd}(J:∀t∈B.t,pr t)(O:B.t.length<=100):∀(m i:Nat),m+i=B.t.length->∀(last:Int) (D:Ŀ (Ĳ×Bool)),nN D B i->(i=0->last=0)->(∀j (h:j<B.t.length),j+1=i->B.t[j].id=last)->(∀j (h:j<B.t.length),j<i->zY B j B.t[j])->
  (JW B (last,(i:Int),D)).wp (z1 (u2 B))
 |0,i,P,last,D,p,v,hp,d=>Cq.Zr (Cq.wp.no ŉ (λj n=>d j n ŉ))
 |m+1,i,P,last,D,p,v,hp,d=>by
  have hi:i<B.t.length:=ŉ;have F:=J _ (Ă hi);have C:0<=last:=by
   by_cases e:i=0
   .rw[v e];exact Ŝ _
   have:=(d (i-1) ŉ ŉ).WH;rw[hp (i-1) ŉ ŉ]at this;omega
  have g:(∀j (h:j<B.t.length),j+1=i->B.t[j].id<B.t[i].id)↔i=0\/last<B.t[i].id:=by
   constructor
   .intro h;by_cases e:i=0
    .exact .inl e
    refine .inr ?_;have:=h (i-1) ŉ ŉ;rwa [hp (i-1) ŉ ŉ]at this
   intro h j n e;rw[hp j n e];rcases h with h|h
   .omega
   exact h
  refine Cq.Zr (Cq.wp.yes ŉ ⟨_,Κ hi,?_⟩);by_cases s:B.t[i].id<=last
  .refine Cq.wp.yes s ⟨rfl,λc=>?_⟩;have:=(c i hi).WH;rcases g.1 (c i hi).inc with e|e
   .rw[v e]at s;omega
   omega
  refine Cq.wp.no s ?_;by_cases G:B.next<=B.t[i].id
  .refine Cq.wp.yes G ⟨rfl,λc=>?_⟩;have:=(c i hi).idn;omega
  refine Cq.wp.no G ?_;rcases Mg (Zxm F)with ⟨f,l⟩|⟨f,l⟩
  .refine⟨_,l,?_⟩;have A:=f.2.1;have k:=yZ A.ok F.xq.w;have q:=yU A.ok F.xq.w;refine⟨_,k,q,?_⟩;by_cases r:(fb D (eZ B.t[i])).getD false=true
   .refine Cq.wp.yes r ⟨rfl,λc=>?_⟩;obtain⟨j,L,h2,h3⟩:=(p.get _).1 r;exact(c i hi).Ü j L h2 h3
   refine Cq.wp.no r ⟨_,(AI _).1,?_⟩;refine Cq.mono (JX D B.t[i] (ò B.t[i].q.kind) 0) (λo H=>?_) (Zz1 p A);cases o with
   |inl b=>
    obtain⟨rfl,E⟩:=H;exact⟨rfl,λc=>E (c i hi).lO⟩
   |inr u=>
    cases u;have E:∀x∈ò B.t[i].q.kind,∃j,∃(h:j<B.t.length),j<i/\eZ B.t[j]=gV B.t[i].k x:=H;have I:=p.step hi;have Q:=I.len;refine⟨_,k,⟨q,by show(eS D (eZ B.t[i]) true).length<=small;simp only[small];omega⟩,?_⟩;show(Cq.loop _ _).wp _;rw[ψ ŉ];refine Q8 J O m (i+1) ŉ _ _ I (λe=>ŉ) (λj n e=>by obtain rfl:j=i:=ŉ;rfl) (λj n e=>?_);by_cases K:j=i
    .subst K;exact⟨ŉ,ŉ,g.2 (.inr ŉ),f,λa N y e=>r ((p.get _).2 ⟨a,N,y,e⟩),E⟩
    exact d j n ŉ
  exact⟨_,l,rfl,λc=>f (c i hi).prop⟩
theorem Su{B:Zd}(i:∀t∈B.t,pr t):(yE B).wp λb=>(b=true↔rK B):=by
 by_cases a:B.next<1
 .refine Cq.wp.yes a ⟨λe=>(nomatch e),λp=>?_⟩;have:=p.1.2.1;omega
 by_cases c:1000000<B.next
 .refine Cq.wp.no a (Cq.wp.yes c ⟨λe=>(nomatch e),λp=>?_⟩);have:=p.1.2.2;omega
 by_cases d:100<(B.t.length:Int)
 .refine Cq.wp.no a (Cq.wp.no c (Cq.wp.yes d ⟨λe=>(nomatch e),λp=>?_⟩));have:=p.1.1;omega
 refine Cq.wp.no a (Cq.wp.no c (Cq.wp.no d ?_));show(Cq.next _ _).wp _;refine Cq.mono (JW B (0,0,[])) (λo f=>?_) (Q8 i ŉ B.t.length 0 rfl 0 [] ⟨λs=>⟨λe=>(nomatch e),λ⟨j,_,h,_⟩=>absurd h (ı _)⟩,Ċ _⟩ (λ_=>rfl) (λj _ e=>ŉ) (λj _ e=>ŉ));cases o with
 |inl b=>
  obtain⟨rfl,g⟩:=f;exact⟨λe=>(nomatch e),λp=>absurd p.2 g⟩
 |inr u=>
  cases u;exact⟨λ_=>⟨ŉ,f⟩,λ_=>rfl⟩
theorem Zty{t:Ze}(d:Þ t.k):(KR t).Α (ò t.q.kind):=by
 refine⟨_,(AI t.q).2,?_⟩;show(Cq.next _ _).wp _;rcases tu t.q.kind with ⟨a,_⟩|⟨x,a,_⟩
 .rw[a];exact Cq.Zr (Cq.wp.no ĳ rfl)
 have c:x∈ò t.q.kind:=by rw[a];exact Ē.2 rfl
 have f:=J6 d (A9 c);have e:(gu t.k x).q=x:=by unfold gu;rw[if_pos (An c d.ok)];exact Am c _
 rw[a];refine Cq.Zr (Cq.wp.yes (show(0:Int)<((1:Nat):Int) by decide) ⟨x,⟨ĳ,rfl⟩,_,f,by simp only[Ļ,ę,ķ];decide,Cq.Zr (Cq.wp.no (show ¬i64.wrap (0+1)<((1:Nat):Int) by decide) ?_)⟩);show[]++[(gu t.k x).q]=[x];rw[e];rfl
theorem ç.wx{B:Zd}(h:ç B):∀t∈B.t,pr t:=λt a=>⟨.inl (h.can t a).ck.1,(h.can t a).cq⟩
theorem ç.valid{B:Zd}(h:ç B)(l:B.t.length<=100):rK B:=by have m:=h.next;refine⟨ŉ,λi hi=>?_⟩;have f:=Ă hi;have a:=h.can _ f;have g:=h.ids i hi;refine⟨ŉ,ŉ,λj c e=>by have:=h.ids j c;omega,⟨h.num _ f,a.ck.1,a.right,by rw[a.ck.2],by rw[a.ck.2,a.self]⟩,λj c d=>ħ.1 h.Ü j i c hi d,λx k=>h.lO i hi x k⟩
end Go.EL

namespace Go.EL
open Go.IntKind (i8 i16 i32 i64 u8 u16 u32 u64)
open Go Go.RowKit
def qx:Ze:=⟨0,⟨0,[],[]⟩,⟨0,[],[]⟩,0,0,0,false⟩
def fv(l:Ŀ Ze)(id:Int):Ze×Bool:=match l.find? λt=>decide (t.id=id)with
 |some t=>(t,true)
 |none=>(qx,false)
theorem AT{B:Zd}(j:B.t.length<=1000)(id:Int):(yQ B id).Α (fv B.t id)/\(Fy B id).Α (fv B.t id):=by
 have key:∀(m i:Nat),m+i=B.t.length->∀z,((Kd B id ((i:Int),z)).wp λo=>o=(match(B.t.drop i).find? (λt=>decide (t.id=id))with|some t=>.inl (t,true)|none=>.inr z))/\((J4 B id ((i:Int),z)).wp λo=>o=(match(B.t.drop i).find? (λt=>decide (t.id=id))with|some t=>.inl (t,true)|none=>.inr z)):=by
  intro m;induction m with
  |zero=>
   intro i hi z;rw[Ķ ŉ];exact⟨Cq.Zr (Cq.wp.no ŉ rfl),Cq.Zr (Cq.wp.no ŉ rfl)⟩
  |succ m h=>
   intro i hi z;have a:i<B.t.length:=ŉ;obtain⟨d,f⟩:=h (i+1) ŉ z;rw[ĭ a,abC];by_cases e:B.t[i].id=id
   .rw[ă e];exact⟨Cq.Zr (Cq.wp.yes ŉ ⟨_,Κ a,Cq.wp.yes e rfl⟩),Cq.Zr (Cq.wp.yes ŉ ⟨_,Κ a,Cq.wp.yes e ⟨_,Κ a,rfl⟩⟩)⟩
   rw[ĉ e];refine⟨Cq.Zr (Cq.wp.yes ŉ ⟨_,Κ a,Cq.wp.no e ?_⟩),Cq.Zr (Cq.wp.yes ŉ ⟨_,Κ a,Cq.wp.no e ?_⟩)⟩
   .show (Cq.loop _ _).wp _;rw[ψ ŉ];exact d
   show(Cq.loop _ _).wp _;rw[ψ ŉ];exact f
 obtain⟨g,k2⟩:=key B.t.length 0 ŉ qx;rw[aba]at g k2;unfold fv;constructor
 .show (Cq.next _ _).wp _;refine Cq.mono (Kd B id (0,qx)) (λo c=>?_) g;rw[c];cases B.t.find? λt=>decide (t.id=id)<;>rfl
 show(Cq.next _ _).wp _;refine Cq.mono (J4 B id (0,qx)) (λo c=>?_) k2;rw[c];cases B.t.find? λt=>decide (t.id=id)<;>rfl
structure mF (s t:Ze):Prop where
 id:s.id=t.id
 χ:s.χ=t.χ
 low:s.low=t.low
 high:s.high=t.high
 done:s.done=t.done
 k:ÿ s.k=ÿ t.k
 q:hL s.q=hL t.q
theorem mF.refl(t:Ze):mF t t:=⟨rfl,rfl,rfl,rfl,rfl,rfl,rfl⟩
theorem Ss{s t:Ze}(a:kV s)(c:kV t)(h:mF s t):(Ew s t).Α true:=by refine Cq.wp.yes h.id (Cq.wp.yes h.χ (Cq.wp.yes h.low (Cq.wp.yes h.high (Cq.wp.yes h.done ⟨_,KU a.k c.k,?_⟩))));rw[ă h.k];exact⟨_,Sr a.q c.q,ă h.q⟩
theorem ZpH{B C:Zd}(f:∀t∈B.t,kV t)(g:∀t∈C.t,kV t)(l:B.next=C.next)(n:B.t.length=C.t.length)(j:B.t.length<=1000)(h:∀i (m:i<B.t.length) (h2:i<C.t.length),mF B.t[i] C.t[i]):(AZ B C).Α true:=by
 refine Cq.wp.no (λe=>e l) (Cq.wp.no (λe=>e ŉ) ?_);show(Cq.next _ _).wp _;refine Cq.Zn B.t.length (λk s=>s=(k:Int)) (λk s d c=>?_) (λs c=>?_) rfl
 .subst c;have a:k<C.t.length:=ŉ;refine Cq.wp.yes ŉ ⟨_,Κ d,_,Κ a,_,Ss (f _ (Ă _)) (g _ (Ă _)) (h k d a),Cq.wp.no ĳ ?_⟩;show _=_;rw[ψ ŉ]
 subst c;exact Cq.wp.no ŉ rfl
theorem Qk{B:Zd}(c:∀t∈B.t,kV t)(a:B.t.length<=1000):(AZ B B).Α true:=ZpH c c rfl rfl a λi _ _=>mF.refl _
def gi(B:Zd)(t:Ze):Bool:=!t.done&&decide (t.χ<=12)&&(ò t.q.kind).all λx=>match er B.t (gV t.k x)with
 |some u=>u.done
 |none=>false
theorem Zv8{B:Zd}(h:ç B)(k:B.t.length<=1000){t:Ze}(f:Þ t.k):(Ly B t).Α (gi B t):=by
 unfold gi;cases j:t.done with
 |true=>exact Cq.wp.yes j (by show _=_;rfl)
 |false=>
  refine Cq.wp.no (by rw[j];decide) ?_;by_cases g:12<t.χ
  .refine Cq.wp.yes g ?_;show _=_;rw[ĉ (p:=t.χ<=12) ŉ];rfl
  refine Cq.wp.no g ⟨_,Zty f,?_⟩;rw[ă (p:=t.χ<=12) ŉ];show(Cq.next _ _).wp _;rcases tu t.q.kind with ⟨d,_⟩|⟨x,d,_⟩
  .rw[d];exact Cq.Zr (Cq.wp.no ĳ rfl)
  have r:x∈ò t.q.kind:=by rw[d];exact Ē.2 rfl
  have n:=(A9 r).w;have a:=Me (q:=x) f.ok (l:=B.t) λt m=>(h.pN m).1;rw[d];refine Cq.Zr (Cq.wp.yes (show(0:Int)<((1:Nat):Int) by decide) ⟨x,⟨ĳ,rfl⟩,_,Vc k h.od f.ok.qV n,?_⟩);simp only[aaK,List.all_nil,abm];unfold Gq;cases hi:B.t.findIdx? (ot t.k x)with
  |none=>
   rw[hi]at a;have a:er B.t (gV t.k x)=none:=a;rw[a];exact Cq.wp.yes (show(-1:Int)<0 by decide) rfl
  |some i=>
   rw[hi]at a;obtain⟨c,_⟩:=aat.1 hi;have a:er B.t (gV t.k x)=some B.t[i]:=by rw[a];exact Ą c
   rw[a];refine Cq.wp.no (show ¬(i:Int)<0 by omega) ⟨_,Κ c,?_⟩;cases e:B.t[i].done with
   |true=>exact Cq.wp.no (by rw[e];decide) (Cq.Zr (Cq.wp.no (show ¬i64.wrap (0+1)<((1:Nat):Int) by decide) (by show true=(!false&&true&&B.t[i].done);rw[e];rfl)))
   |false=>exact Cq.wp.yes (by rw[e];rfl) (by show false=(!false&&true&&B.t[i].done);rw[e];rfl)
def hU(B:Zd)(n:Nat):Ŀ Ze:=B.t.filter λt=>decide (t.χ=(n:Int))&&gi B t
def ix(B:Zd):Ŀ Ze:=(List.range 13).flatMap (hU B)
def nq(B:Zd):Ŀ Int:=(ix B).map (·.id)
theorem Rj{α:Type}(p:α->Bool){l:Ŀ α}{i:Nat}(hi:i<l.length):(l.take (i+1)).filter p=(l.take i).filter p++if p l[i]=true then[l[i]]else[]:=by rw[č hi,aa8];congr 1;rw[Ŏ];split<;>rfl
theorem ZvL(B:Zd)(n:Nat):(hU B n).length<=B.t.length:=ű _ _
theorem Ee(B:Zd):∀n:Nat,((List.range n).flatMap (hU B)).length<=n*B.t.length
 |0=>Ĝ _
 |n+1=>by rw[aac,Ů,Ā,aaD,Ŋ];have:=Ee B n;have:=ZvL B n;omega
theorem Zva{B:Zd}(h:ç B)(f:B.t.length<=1000):(KS B).Α (nq B):=by
 show(Cq.next _ _).wp _;refine Cq.Zn 13 (λn s=>s=(((List.range n).flatMap (hU B)).map (·.id),(n:Int))) (λn s q c=>?_) (λs c=>?_) rfl
 .subst c;refine Cq.wp.yes ŉ ?_;show(Cq.next _ _).wp _;have p:=Ee B n;have j:n*B.t.length<=13*1000:=aay ŉ f;generalize e:((List.range n).flatMap (hU B)).map (·.id)=O;have k:O.length<=13000:=by rw[<-e,ć];omega
  refine Cq.Zn B.t.length (λi s=>s=(O++((B.t.take i).filter λt=>decide (t.χ=(n:Int))&&gi B t).map (·.id),(i:Int))) (λi s hi c=>?_) (λs c=>?_) (by show _=_;simp)
  .subst c;have a:=Rj (λt=>decide (t.χ=(n:Int))&&gi B t) hi;have l:((B.t.take i).filter λt=>decide (t.χ=(n:Int))&&gi B t).length<=1000:=ń (ű _ _) (by rw[Č];omega);have m:=(h.can _ (Ă hi)).ck.1;refine Cq.wp.yes ŉ ⟨_,Κ hi,?_⟩;by_cases d:B.t[i].χ=(n:Int)
   .refine Cq.wp.yes d ⟨_,Κ hi,_,Zv8 h f m,?_⟩;rw[d,ă rfl,ŝ]at a;cases g:gi B B.t[i]with
    |true=>
     rw[g,ą rfl]at a;refine Cq.wp.yes rfl ⟨_,Κ hi,by simp only[Ā,ć,ę,ķ];simp only[small];omega,?_⟩;show _=_;rw[ψ ŉ,a,ĩ,Đ];rfl
    |false=>
     rw[g,ā ĳ,Ę]at a;refine Cq.wp.no ĳ ?_;show _=_;rw[ψ ŉ,a]
   rw[ĉ d,Ŭ,ā ĳ,Ę]at a;refine Cq.wp.no d (Cq.wp.no ĳ ?_);show _=_;rw[ψ ŉ,a]
  subst c;refine Cq.wp.no ŉ ?_;rw[Ĥ];show _=_;rw[ψ ŉ,aac,Ů,ĩ,e,aaD];rfl
 subst c;exact Cq.wp.no ĳ rfl
def xV(s t:Ze):Prop:=s.χ<t.χ\/(s.χ=t.χ/\s.id<t.id)
theorem Un{s t:Ze}:lk s t<0↔xV s t:=by
 unfold lk xV;by_cases a:s.χ<t.χ
 .rw[ą a];omega
 rw[ā a];by_cases b:t.χ<s.χ
 .rw[ą b];omega
 rw[ā b];by_cases c:s.id<t.id
 .rw[ą c];omega
 rw[ā c];split<;>omega
theorem ç.inc{B:Zd}(h:ç B):B.t.Pairwise λs t=>s.id<t.id:=by rw[ħ];intro i j hi c a;have:=h.ids i hi;have:=h.ids j c;omega
theorem Uc{B:Zd}(h:ç B):∀n:Nat,((List.range n).flatMap (hU B)).Pairwise xV/\∀t∈(List.range n).flatMap (hU B),t.χ<(n:Int)
 |0=>⟨List.Pairwise.nil,λt a=>by cases a⟩
 |n+1=>by
  obtain⟨f,h2⟩:=Uc h n;have c:∀t∈hU B n,t.χ=(n:Int):=λt a=>by have:=(ō.1 a).2;rw[Ĉ]at this;exact ĥ this.1
  rw[aac,Ů,aaD,ek];refine⟨⟨f,?_,λs d t a=>.inl (by have:=h2 s d;have:=c t a;omega)⟩,λt a=>?_⟩
  .have hp:(hU B n).Pairwise λs t=>s.id<t.id:=h.inc.sublist List.filter_sublist;refine hp.imp_of_mem λ{s t} d a e=>.inr ⟨by have:=c s d;have:=c t a;omega,e⟩
  rcases Ĩ.1 a with a|a
  .have:=h2 t a;omega
  have:=c t a;omega
theorem Zvx{t:Ze}(h:xV t t):False:=by unfold xV at h;omega
theorem ZtP{B:Zd}{t:Ze}(h:gi B t=true):t.done=false/\t.χ<=12:=by unfold gi at h;rw[Ĉ,Ĉ]at h;exact⟨by simpa using h.1.1,ĥ h.1.2⟩
theorem SZ{B:Zd}(h:ç B){t:Ze}:t∈ix B↔t∈B.t/\gi B t=true:=by
 unfold ix hU;simp only[List.mem_flatMap,ĺ,ō,Ĉ,Ě];constructor
 .rintro⟨n,_,a,_,h2⟩;exact⟨a,h2⟩
 rintro⟨a,h2⟩;have c:=(h.num t a).1;have:=(ZtP h2).2;exact⟨t.χ.toNat,ŉ,a,ŉ,h2⟩
theorem ZvM{B:Zd}(h:ç B){ys:Ŀ Ze}(hp:ys.Perm (B.t.filter (gi B)))(u:ys.Pairwise λx y=>¬lk y x<0):ys=ix B:=by
 have hr:=(Uc h 13).1;have f:(ix B).Nodup:=hr.imp λ{s t} e c=>by subst c;exact Zvx e
 have d:(B.t.filter (gi B)).Nodup:=(h.inc.sublist List.filter_sublist).imp λ{s t} e c=>by subst c;exact Int.lt_irrefl _ e
 refine abl (le:=λx y=>¬lk y x<0) (λa b n p l h2=>?_) u (hr.imp λ{s t} e c=>?_) (hp.trans ((List.perm_ext_iff_of_nodup d f).2 λt=>?_))
 .rw[Un]at l h2;have v:=(ō.1 (hp.mem_iff.1 n)).1;have mb:=((SZ h).1 p).1;obtain⟨i,hi,g⟩:=Ł.1 v;obtain⟨j,r,k⟩:=Ł.1 mb;have h3:=h.ids i hi;have m:=h.ids j r;have q:a.id=b.id:=by unfold xV at l h2;omega
  rw[g]at h3;rw[k]at m;have:i=j:=ŉ;subst this;rw[<-g,<-k]
 .rw[Un]at c;unfold xV at e c;omega
 rw[SZ h,ō]
end Go.EL

namespace Go.EL
open Go.IntKind (i8 i16 i32 i64 u8 u16 u32 u64)
open Go Go.RowKit
structure pj (D:Ŀ (Ĳ×Bool)) (B:Zd) (i:Nat):Prop where
 get:∀s,(fb D s).getD false=true↔∃j,∃(h:j<B.t.length),j<i/\eZ B.t[j]=s/\B.t[j].done=true
 len:D.length<=i
theorem Zx8{B:Zd}(h:ç B)(u:B.t.length<=1000):∃D,pj D B B.t.length/\(D4 B (0,[])).Α D:=by
 have key:∀k,k<=B.t.length->∃D,pj D B k/\∀E,(D4 B ((k:Int),D)).Α E->(D4 B (0,[])).Α E:=by
  intro k;induction k with
  |zero=>intro _;exact⟨[],⟨λs=>⟨λe=>(nomatch e),λ⟨j,_,h,_⟩=>absurd h (ı _)⟩,Ċ _⟩,λE i=>i⟩
  |succ k r=>
   intro t;obtain⟨D,g,h2⟩:=r ŉ;have f:k<B.t.length:=ŉ;obtain⟨n,p⟩:=h.pN (Ă f);have q:=g.len;cases l:B.t[k].done with
   |true=>
    have v:=AY D (eZ B.t[k]) true;refine⟨eS D (eZ B.t[k]) true,⟨λs=>?_,ŉ⟩,λE i=>h2 E (Cq.Zr (Cq.wp.yes ŉ ⟨_,Κ f,Cq.wp.yes l ⟨_,yZ n p,⟨yU n p,by show(eS D (eZ B.t[k]) true).length<=small;simp only[small];omega⟩,?_⟩⟩))⟩
    .rw[yP];by_cases e:eZ B.t[k]=s
     .rw[ą e];exact⟨λ_=>⟨k,f,Ų _,e,l⟩,λ_=>rfl⟩
     rw[ā e,g.get];constructor
     .rintro⟨j,a,b,c⟩;exact⟨j,a,ŉ,c⟩
     rintro⟨j,a,b,c,d⟩;by_cases m:j=k
     .subst m;exact absurd c e
     exact⟨j,a,ŉ,c,d⟩
    show(Cq.loop _ _).wp _;rw[ψ ŉ];exact i
   |false=>
    refine⟨D,⟨λs=>?_,ŉ⟩,λE i=>h2 E (Cq.Zr (Cq.wp.yes ŉ ⟨_,Κ f,Cq.wp.no (by rw[l];decide) ?_⟩))⟩
    .rw[g.get];constructor
     .rintro⟨j,a,b,c⟩;exact⟨j,a,ŉ,c⟩
     rintro⟨j,a,b,c,d⟩;by_cases m:j=k
     .subst m;rw[l]at d;cases d
     exact⟨j,a,ŉ,c,d⟩
    show(Cq.loop _ _).wp _;rw[ψ ŉ];exact i
 obtain⟨D,g,h2⟩:=key B.t.length (Ċ _);exact⟨D,g,h2 D (Cq.Zr (Cq.wp.no ŉ rfl))⟩
theorem Zwp{B:Zd}(h:ç B){D:Ŀ (Ĳ×Bool)}(l:pj D B B.t.length)(s:Ĳ):(fb D s).getD false=(match er B.t s with|some u=>u.done|none=>false):=by
 rw[abD,l.get];cases g:er B.t s with
 |none=>
  constructor
  .rintro⟨j,a,_,c,_⟩;exact absurd c (RM g _ (Ă a))
  intro e;cases e
 |some u=>
  obtain⟨n,f⟩:=KF g;obtain⟨i,hi,e⟩:=Ł.1 n;dsimp only;constructor
  .rintro⟨j,a,_,c,d⟩;have:i=j:=by
    by_cases k:i<j
    .exact absurd (by rw[e,f,c]) (ħ.1 h.Ü i j hi a k)
    by_cases h2:j<i
    .exact absurd (by rw[e,f,c]) (ħ.1 h.Ü j i a hi h2)
    omega
   subst this;rw[<-e];exact d
  intro m;exact⟨i,hi,hi,by rw[e];exact f,by rw[e];exact m⟩
theorem Zrz{B:Zd}(h:ç B){D:Ŀ (Ĳ×Bool)}(f:pj D B B.t.length){t:Ze}(d:Þ t.k):
  (ZG (ò t.q.kind) D t).Α (!(ò t.q.kind).all λx=>match er B.t (gV t.k x)with|some u=>u.done|none=>false):=by
 rcases tu t.q.kind with ⟨a,_⟩|⟨x,a,_⟩
 .rw[a]
  exact⟨-1,Cq.Zr (Cq.wp.no ĳ rfl),rfl⟩
 have i:x∈ò t.q.kind:=by rw[a];exact Ē.2 rfl
 have e:=(A9 i).w
 have g:=Zwp h f (gV t.k x)
 have c:(JU x D t).Α (!((fb D (gV t.k x)).getD false)):=⟨_,yZ d.ok e,yU d.ok e,rfl⟩
 rw[g]at c
 rw[a]
 simp only[aaK,List.all_nil,abm]
 generalize (match er B.t (gV t.k x)with|some u=>u.done|none=>false:Bool)=b at c
 cases b with
 |true=>exact⟨-1,Cq.Zr (Cq.wp.yes (show(0:Int)<((1:Nat):Int) by decide) ⟨x,⟨ĳ,rfl⟩,_,c,Cq.wp.no ĳ (Cq.Zr (Cq.wp.no (show ¬i64.wrap (0+1)<((1:Nat):Int) by decide) rfl))⟩),rfl⟩
 |false=>exact⟨0,Cq.Zr (Cq.wp.yes (show(0:Int)<((1:Nat):Int) by decide) ⟨x,⟨ĳ,rfl⟩,_,c,Cq.wp.yes rfl rfl⟩),rfl⟩
theorem RH{B:Zd}(h:ç B)(q:B.t.length<=100):(ER B).Α (nq B):=by
 obtain⟨D,p,r⟩:=Zx8 h ŉ;refine Cq.eY r ?_;show(Cq.next _ _).wp _;refine Cq.Zn B.t.length (λi s=>s=((B.t.take i).filter (gi B),(i:Int))) (λi s hi d=>?_) (λs d=>?_) rfl
 .subst d;have a:=Rj (gi B) hi;have f:((B.t.take i).filter (gi B)).length<=100:=ń (ű _ _) (by rw[Č];omega);have l:=(h.can _ (Ă hi)).ck.1;have c:gi B B.t[i]=(!B.t[i].done&&decide (B.t[i].χ<=12)&&(ò B.t[i].q.kind).all λx=>match er B.t (gV B.t[i].k x)with|some u=>u.done|none=>false):=rfl;refine Cq.wp.yes ŉ ⟨_,Κ hi,?_⟩;cases j:B.t[i].done with
  |true=>
   have A:gi B B.t[i]=false:=by rw[c,j];rfl
   rw[A,ā ĳ,Ę]at a;refine Cq.wp.yes j ?_;show _=_;rw[ψ ŉ,a]
  |false=>
   refine Cq.wp.no (by rw[j];decide) ?_;by_cases g:B.t[i].χ<=12
   .rw[c,j,ă g]at a;refine Cq.wp.yes g ⟨_,(AI _).1,_,Zrz h p l,?_⟩;generalize ((ò B.t[i].q.kind).all λx=>match er B.t (gV B.t[i].k x)with|some u=>u.done|none=>false)=b at a;cases b with
    |true=>
     rw[ą ĳ]at a;refine Cq.wp.yes rfl ⟨by simp only[Ā,ę,ķ];simp only[small];omega,?_⟩;show _=_;rw[ψ ŉ,a]
    |false=>
     rw[ā ĳ,Ę]at a;refine Cq.wp.no ĳ ?_;show _=_;rw[ψ ŉ,a]
   rw[c,ĉ g,Bool.and_false,Ŭ,ā ĳ,Ę]at a;refine Cq.wp.no g ?_;show _=_;rw[ψ ŉ,a]
 subst d;refine Cq.wp.no ŉ ?_;rw[Ĥ];have f:(B.t.filter (gi B)).length<=100:=ń (ű _ _) q;obtain⟨v,y,C,E⟩:=TJ f;have e:(ZR (B.t.filter (gi B))).Α (ix B):=⟨_,y,ix B,⟨⟨rfl,rfl,⟨C,E⟩,ŉ⟩,λys n=>ZvM h n.1 n.2⟩,rfl⟩;refine⟨_,e,?_⟩;have t:=Ee B 13;show(Cq.next _ _).wp _;refine Cq.Zn (ix B).length (λk s=>s=(((ix B).take k).map (·.id),(k:Int))) (λk s l d=>?_) (λs d=>?_) rfl
 .subst d;have m:(ix B).length<=1300:=by
   show((List.range 13).flatMap (hU B)).length<=1300;omega
  refine Cq.wp.yes ŉ ⟨_,Κ l,by simp only[Ā,ć,Č,ę,ķ];simp only[small];omega,?_⟩;show _=_;rw[ψ ŉ,č l,ĩ];rfl
 subst d;refine Cq.wp.no ŉ ?_;rw[Ĥ];rfl
end Go.EL

namespace Go.EL
open Go.IntKind (i8 i16 i32 i64 u8 u16 u32 u64)
open Go Go.RowKit
theorem y5(N:Nat)(p:N<=1000)(f:Nat->Bool){step:Int->Cq (Int⊕(Bool⊕Unit))}(h:∀k,k<N->(step (k:Int)).wp λo=>o=if f k=true then .inl (i64.wrap ((k:Int)+1))else .inr (.inl false))
  (a:(step (N:Int)).wp λo=>o=.inr (.inr ())):(Cq.loop step 0).wp λo=>o=if(List.range N).all f=true then .inr ()else .inl false:=by
 refine Cq.Zn N (λk s=>s=(k:Int)/\∀i,i<k->f i=true) (λk s l j=>?_) (λs j=>?_) ⟨rfl,λi hi=>absurd hi (ı _)⟩
 .obtain⟨rfl,d⟩:=j
  refine(step _).mono (λo g=>?_) (h k l)
  subst g
  by_cases c:f k=true
  .rw[ą c]
   refine⟨ψ ŉ,λi m=>?_⟩
   by_cases e:i=k
   .subst e;exact c
   exact d i ŉ
  rw[ā c]
  show _=_
  rw[ā λe=>c (Ć.1 e _ (ĺ.2 l))]
 obtain⟨rfl,d⟩:=j
 refine(step _).mono (λo g=>?_) a
 subst g
 show _=_
 rw[ą (Ć.2 λx n=>d x (ĺ.1 n))]
theorem yT{α:Type}(l:Ŀ α)(g:l.length<=1000)(f:α->Bool){step:Int->Cq (Int⊕(Bool⊕Unit))}(h:∀k (d:k<l.length),(step (k:Int)).wp λo=>o=if f l[k]=true then .inl (i64.wrap ((k:Int)+1))else .inr (.inl false))
  (a:(step (l.length:Int)).wp λo=>o=.inr (.inr ())):(Cq.loop step 0).wp λo=>o=if l.all f=true then .inr ()else .inl false:=by
 have key:=y5 l.length g (λk=>(l[k]?.map f).getD true) (step:=step) (λk d=>by have:=h k d;rw[Ą d];exact this) a
 have e:((List.range l.length).all λk=>(l[k]?.map f).getD true)=l.all f:=by
  rw[abD,Ć,Ć];constructor
  .intro c x j;obtain⟨i,hi,rfl⟩:=ž j;have:=c i (ĺ.2 hi);rw[Ą hi]at this;exact this
  intro c i hi;have hi:=ĺ.1 hi;rw[Ą hi];exact c _ (Ă hi)
 rw[e]at key
 exact key
def fR(p:Ù)(n d:Int):Bool:=decide ((ï p).toNat<2 ^ n.toNat)&&decide (gf p<=d)
theorem ZyU{p:Ù}{n:Nat}(e:n<=4):(Int.fdiv (i64.wrap (ï p)) (2 ^ (min (n:Int).toNat i64.bits))=0)↔(ï p).toNat<2 ^ n:=by
 have f:=tX p;rw[wrap64 ŉ];obtain⟨u,c⟩:∃u:Nat,ï p=(u:Int):=⟨(ï p).toNat,ŉ⟩;have d:Int.fdiv (ï p) (2 ^ (min (n:Int).toNat i64.bits))=((u / 2 ^ n:Nat):Int):=by rw[c,Ĕ,Ž (show n<=i64.bits from ń e ĳ),aaf _ (Int.le_of_lt (Int.pow_pos ĳ))];push_cast;rfl
 rw[d,c,Ĕ];have hp:=aab n;constructor
 .intro a;have a:u / 2 ^ n=0:=ŉ;rcases eG.1 a with h|h
  .omega
  exact h
 intro a;rw[aaJ a];rfl
theorem J8{k:Zb}(f:1<=k.n/\k.n<=4){p:Ù}(h:ω p)(d:Int):(è ⟨k⟩ p d).Α (fR p k.n d):=by
 refine⟨true,DS h,_,Fz h.len,by show 0<=k.n;omega,?_⟩;obtain⟨n,c⟩:∃n:Nat,k.n=(n:Int):=⟨k.n.toNat,ŉ⟩;have hi:=ZyU (p:=p) (n:=n) ŉ;unfold fR;show Cq.wp (if(Int.fdiv (i64.wrap (ï p)) (2 ^ (min (k.n).toNat i64.bits)))=0 then _ else _) _;rw[c,Ĕ];by_cases a:(ï p).toNat<2 ^ n
 .rw[ă a,ŝ];exact Cq.wp.yes (hi.2 a) ⟨_,yu h,rfl⟩
 rw[ĉ a,Ŭ];exact Cq.wp.no (λe=>a (hi.1 e)) rfl
theorem Em{n:Int}(f:1<=n/\n<=4){p:Ù}(h:ω p)(d:Int):(wV p n d).Α (fR p n d):=by
 obtain⟨n,rfl⟩:∃m:Nat,n=(m:Int):=⟨n.toNat,ŉ⟩;have nH:1<=n/\n<=4:=ŉ;have g:=tX p;have c:u64.wrap (n:Int)=(n:Int):=qD ⟨ŉ,ŉ⟩;have a:i64.wrap (1*2 ^ (min (n:Int).toNat i64.bits))=((2 ^ n:Nat):Int):=by
  match n,nH with
  |1,_=>rfl
  |2,_=>rfl
  |3,_=>rfl
  |4,_=>rfl
 refine⟨true,Aa h,_,z8 h.len,by rw[c];omega,?_⟩;rw[c,a,wrap64 ŉ];unfold fR;rw[Ĕ];by_cases e:(ï p).toNat<2 ^ n
 .rw[ă e,ŝ];exact Cq.wp.yes ŉ ⟨_,wS h,rfl⟩
 rw[ĉ e,Ŭ];exact Cq.wp.no ŉ rfl
theorem xn{c:Cq (Bool⊕Unit)}{b:Bool}{k:Bool⊕Unit->Cq Bool}(h:c.wp λo=>o=if b=true then .inr ()else .inl false)(d:k (.inl false)=Cq.ret false)(h2:k (.inr ())=Cq.ret true):(c.next k).wp λa=>a=b:=by
 refine c.mono (λo e=>?_) h;subst e;cases b with
 |false=>rw[ā ĳ,d];rfl
 |true=>rw[ą rfl,h2];rfl
theorem Tq{k:Zb}(a:1<=k.n/\k.n<=4){l:Ŀ Ù}(c:l.length<=3)(h:∀p∈l,ω p):(Æ ⟨k⟩ l).Α (l.all λp=>fR p k.n 64):=by
 refine Cq.wp.yes ŉ ⟨_,⟨_,xn (yT l ŉ (λp=>fR p k.n 64) (λi hi=>?_) ?_) rfl rfl,rfl⟩,rfl⟩
 .refine Cq.wp.yes ŉ ⟨_,Κ hi,_,⟨_,J8 a (h _ (Ă hi)) 64,rfl⟩,?_⟩;cases fR l[i] k.n 64 with
  |false=>exact Cq.wp.yes rfl rfl
  |true=>exact Cq.wp.no ĳ rfl
 exact Cq.wp.no ŉ rfl
theorem Sq{n:Int}(a:1<=n/\n<=4){l:Ŀ Ù}(c:l.length<=3)(h:∀p∈l,ω p):(FH l n).Α (l.all λp=>fR p n 64):=by
 refine xn (yT l ŉ (λp=>fR p n 64) (λi hi=>?_) ?_) rfl rfl
 .refine Cq.wp.yes ŉ ⟨_,Κ hi,_,Em a (h _ (Ă hi)) 64,?_⟩;cases fR l[i] n 64 with
  |false=>exact Cq.wp.yes rfl rfl
  |true=>exact Cq.wp.no ĳ rfl
 exact Cq.wp.no ŉ rfl
def lu(s:Ŀ Int):Prop:=s.length<=3/\∀x∈s,-1<=x/\x<=1
theorem Zxv{s:Ŀ Int}(h:lu s):(IZ s).Α true:=by
 have key:=yT s (by have:=h.1;omega) (λ_=>true) (step:=λa=>if a<(s.length:Int)then(Cq.Θ s a λf=>Cq.bind (JI f) λc=>if(!c)=true then(Cq.ret (.inr (.inl false)))else(Cq.ret (.inl (i64.wrap (a+1)))))else(Cq.ret (.inr (.inr ())))) (λi hi=>?_) ?_
 .have e:(s.all λ_=>true)=true:=Ć.2 λ_ _=>rfl;rw[e]at key;exact Cq.eY key rfl
 .have d:=h.2 _ (Ă hi);refine Cq.wp.yes ŉ ⟨_,Κ hi,true,Cq.wp.yes d.1 ?_,Cq.wp.no ĳ rfl⟩;exact ă d.2
 exact Cq.wp.no ŉ rfl
theorem Zvf{s:Ŀ Int}(h:lu s):(K8 s).Α true:=by
 have key:=yT s (by have:=h.1;omega) (λ_=>true) (step:=λa=>if a<(s.length:Int)then(Cq.Θ s a λc=>if c<(-1)then(Cq.ret (.inr (.inl false)))else(Cq.Θ s a λd=>if 1<d then Cq.fail else(Cq.ret (.inl (i64.wrap (a+1))))))else(Cq.ret (.inr (.inr ())))) (λi hi=>?_) ?_
 .have e:(s.all λ_=>true)=true:=Ć.2 λ_ _=>rfl;rw[e]at key;exact Cq.eY key rfl
 .have f:=h.2 _ (Ă hi);exact Cq.wp.yes ŉ ⟨_,Κ hi,Cq.wp.no ŉ ⟨_,Κ hi,Cq.wp.no ŉ rfl⟩⟩
 exact Cq.wp.no ŉ rfl
def nb(x y m:Int):Ŀ Zl:=[l5 x m,l5 y m,l5 0 0,l5 0 0,l5 0 0,l5 0 0,l5 0 0,l5 0 0]
def nL(b:Ŀ Zl):Prop:=∃x y m,gN x/\gN y/\iA m/\b=nb x y m
def k8(x:Zl):Bool:=x.lo.num.υ.isEmpty&&x.hi.num.υ.isEmpty
def ic(n:Int)(b:Ŀ Zl):Bool:=decide (2<=n) || (b[1]?.map k8).getD true
theorem ZzW:(á (-128) 127 λn=>(Ν (nI n)).num.υ.isEmpty == decide (n=0))=true:=by decide +kernel
theorem ZzQ:(á 0 7 λm=>(Ν (oP 0 m)).num.υ.isEmpty == decide (m=0))=true:=by decide +kernel
def wz(n m:Int):Bool:=decide (n=0)&&decide (m=0)
theorem TX{n m:Int}(h:gN n)(c:iA m):k8 (l5 n m)=wz n m:=by
 have l:=eq_of_beq (Zq ZzW h.1 h.2);unfold k8 wz;show((Ν (nI n)).num.υ.isEmpty&&(Ν (oP n m)).num.υ.isEmpty)=_;rw[l];by_cases a:n=0
 .subst a;rw[eq_of_beq (Zq ZzQ c.1 c.2)]
 rw[ĉ a];rfl
theorem U5{n m:Int}(h:gN n)(c:iA m):∃a b:Bool,(vl (l5 n m).lo).Α a/\(tv (l5 n m).lo).Α a/\(a=true->(vl (l5 n m).hi).Α b/\(tv (l5 n m).hi).Α b)/\k8 (l5 n m)=(a&&b):=by rw[TX h c];refine⟨_,_,(U7 h).1,(U7 h).2,λe=>?_,rfl⟩;have e:=ĥ e;subst e;exact ZzO c
theorem L0{x y m:Int}(e:gN x)(f:gN y)(a:iA m){k:Nat}(c:k<8):∃n d,gN n/\iA d/\(0:Int)<=(k:Int)/\(nb x y m)[(k:Int).toNat]?=some (l5 n d)/\(2<=k->n=0/\d=0)/\(k=1->n=y/\d=m):=by
 have z:gN 0/\iA 0:=ĳ;match k,c with
 |0,_=>exact⟨x,m,e,a,ĳ,rfl,λh=>absurd h ĳ,λh=>absurd h ĳ⟩
 |1,_=>exact⟨y,m,f,a,ĳ,rfl,λh=>absurd h ĳ,λ_=>⟨rfl,rfl⟩⟩
 |2,_=>exact⟨0,0,z.1,z.2,ĳ,rfl,λ_=>⟨rfl,rfl⟩,λh=>absurd h ĳ⟩
 |3,_=>exact⟨0,0,z.1,z.2,ĳ,rfl,λ_=>⟨rfl,rfl⟩,λh=>absurd h ĳ⟩
 |4,_=>exact⟨0,0,z.1,z.2,ĳ,rfl,λ_=>⟨rfl,rfl⟩,λh=>absurd h ĳ⟩
 |5,_=>exact⟨0,0,z.1,z.2,ĳ,rfl,λ_=>⟨rfl,rfl⟩,λh=>absurd h ĳ⟩
 |6,_=>exact⟨0,0,z.1,z.2,ĳ,rfl,λ_=>⟨rfl,rfl⟩,λh=>absurd h ĳ⟩
 |7,_=>exact⟨0,0,z.1,z.2,ĳ,rfl,λ_=>⟨rfl,rfl⟩,λh=>absurd h ĳ⟩
def gj(n:Int)(b:Ŀ Zl)(k:Nat):Bool:=decide ((k:Int)<n) || (b[(k:Int).toNat]?.map k8).getD true
theorem Sf{n:Int}(q:1<=n/\n<=4){b:Ŀ Zl}(h:nL b):(List.range 8).all (gj n b)=ic n b:=by
 obtain⟨x,y,m,j,l,i,rfl⟩:=h;have z:∀k,2<=k->k<8->gj n (nb x y m) k=true:=λk h2 g=>by obtain⟨a,d,_,_,_,e,p,_⟩:=L0 j l i g;obtain⟨rfl,rfl⟩:=p h2;unfold gj;rw[e];show(_ || k8 (l5 0 0))=true;rw[TX ĳ ĳ];exact abA _
 have c:gj n (nb x y m) 0=true:=by unfold gj;rw[decide_eq_true (show((0:Nat):Int)<n by omega)];rfl
 have f:gj n (nb x y m) 1=ic n (nb x y m):=by unfold gj ic;have:decide (((1:Nat):Int)<n)=decide (2<=n):=ŧ.2 ⟨λh=>by omega,λh=>by omega⟩;rw[this];rfl
 show(gj n _ 0&&(gj n _ 1&&(gj n _ 2&&(gj n _ 3&&(gj n _ 4&&(gj n _ 5&&(gj n _ 6&&(gj n _ 7&&true))))))))=_;rw[c,f,z 2 ĳ ĳ,z 3 ĳ ĳ,z 4 ĳ ĳ,z 5 ĳ ĳ,z 6 ĳ ĳ,z 7 ĳ ĳ];simp
theorem Zzl{k:Zb}(p:1<=k.n/\k.n<=4){b:Ŀ Zl}(h:nL b):(dN ⟨k⟩ b).Α (ic k.n b):=by
 rw[<-Sf p h];obtain⟨x,y,m,q,r,n,rfl⟩:=h;refine xn (y5 8 ĳ (gj k.n (nb x y m)) (λi hi=>?_) ?_) rfl rfl
 .obtain⟨a,d,g,j,f,e,_,_⟩:=L0 q r n hi;unfold gj;rw[e];show Cq.wp _ λo=>o=if(_ || k8 (l5 a d))=true then _ else _;by_cases c:(i:Int)<k.n
  .rw[ă c,ū,ą rfl];exact Cq.wp.yes ŉ ⟨_,⟨f,e⟩,Cq.wp.yes c ⟨true,Zoe g j,Cq.wp.no (by show ¬k.n<=(i:Int);omega) rfl⟩⟩
  rw[ĉ c,ļ];obtain⟨u,v,t,s,z3,l⟩:=U5 g j;rw[l];refine Cq.wp.yes ŉ ⟨_,⟨f,e⟩,Cq.wp.no c (Cq.wp.yes (by show k.n<=(i:Int);omega) ⟨u,s,?_⟩)⟩;cases u with
  |false=>rfl
  |true=>
   refine⟨v,(z3 rfl).2,?_⟩;cases v with
   |false=>exact Cq.wp.yes rfl rfl
   |true=>exact Cq.wp.no ĳ rfl
 exact Cq.wp.no ĳ rfl
def km(b:Ŀ (Ŀ Zl)):Prop:=b.length<=3/\∀x∈b,nL x
theorem SC{k:Zb}(a:1<=k.n/\k.n<=4){l:Ŀ (Ŀ Zl)}(h:km l):(Â ⟨k⟩ l).Α (l.all (ic k.n)):=by
 have c:=h.1;refine Cq.wp.yes ŉ ⟨_,xn (yT l ŉ (ic k.n) (λi hi=>?_) ?_) rfl rfl,rfl⟩
 .refine Cq.wp.yes ŉ ⟨_,Κ hi,_,Zzl a (h.2 _ (Ă hi)),?_⟩;cases ic k.n l[i]with
  |false=>exact Cq.wp.yes rfl rfl
  |true=>exact Cq.wp.no ĳ rfl
 exact Cq.wp.no ŉ rfl
theorem Zzh{n:Int}(t:1<=n/\n<=4){l:Ŀ (Ŀ Zl)}{j:Nat}(r:j<l.length)(h:nL l[j]):(Qs l n (j:Int) 0).wp λo=>o=if ic n l[j]=true then .inr ()else .inl false:=by
 rw[<-Sf t h];have ke:=Κ r;obtain⟨x,y,m,A,B,s,p⟩:=h;rw[p]at ke⊢;refine y5 8 ĳ (gj n (nb x y m)) (λi hi=>?_) ?_
 .obtain⟨a,d,f,g,c,e,_,_⟩:=L0 A B s hi;unfold gj;rw[e];show Cq.wp _ λo=>o=if(_ || k8 (l5 a d))=true then _ else _;by_cases k:(i:Int)<n
  .rw[ă k,ū,ą rfl];exact Cq.wp.yes ŉ ⟨_,ke,_,⟨c,e⟩,true,P6 f g,Cq.wp.no ŉ rfl⟩
  rw[ĉ k,ļ];obtain⟨u,v,C,D,z3,q⟩:=U5 f g;rw[q];refine Cq.wp.yes ŉ ⟨_,ke,_,⟨c,e⟩,true,P6 f g,Cq.wp.yes ŉ ⟨_,ke,_,⟨c,e⟩,u,C,?_⟩⟩;cases u with
  |false=>rfl
  |true=>
   refine⟨_,ke,_,⟨c,e⟩,v,(z3 rfl).1,?_⟩;cases v with
   |false=>exact Cq.wp.yes rfl rfl
   |true=>exact Cq.wp.no ĳ rfl
 exact Cq.wp.no ĳ rfl
theorem RG{n:Int}(a:1<=n/\n<=4){l:Ŀ (Ŀ Zl)}(h:km l):(Fv l n).Α (l.all (ic n)):=by
 have c:=h.1;refine Cq.wp.no ŉ (xn (yT l ŉ (ic n) (λi hi=>?_) ?_) rfl rfl)
 .refine Cq.wp.yes ŉ (Cq.eY (Zzh a hi (h.2 _ (Ă hi))) ?_);cases ic n l[i]with
  |false=>rfl
  |true=>rfl
 exact Cq.wp.no ŉ rfl
end Go.EL

namespace Go.EL
open Go.IntKind (i8 i16 i32 i64 u8 u16 u32 u64)
open Go Go.RowKit
theorem Cq.wp.nr{α:Type}{p:Prop}[Decidable p]{A B:Cq α}{q:α->Prop}(e:decide p=false)(h:B.wp q):(if p then A else B).wp q:=Cq.wp.no (aaY e) h
def rE(l:Ŀ Ù):Prop:=l.length<=3/\∀p∈l,ω p
inductive Ê:Zj->Prop
 |hZ (c:Int) (p:Ù):c=1\/c=2\/c=10->ω p->Ê ⟨c,p,0,0,0,[],[],[],[]⟩
 |nil (c:Int):c=3\/c=9->Ê ⟨c,[],0,0,0,[],[],[],[]⟩
 |GM (o:Ord) (l:Ŀ Ù):o∈kP->rE l->Ê ⟨4,[],0,0,0,o,l,[],[]⟩
 |BJ (n d:Int):0<=n/\n<=15->-1<=d/\d<=2->Ê ⟨5,[],n,d,0,[],[],[],[]⟩
 |HD (n d r:Int):0<=r/\r<=d/\d<=n/\n<=7->Ê ⟨6,[],n,d,r,[],[],[],[]⟩
 |box (b:Ŀ (Ŀ Zl)):km b->Ê ⟨7,[],0,0,0,[],[],[],b⟩
 |sig (p:Ù) (s:Ŀ Int) (b:Ŀ (Ŀ Zl)):ω p->lu s->s.length=b.length->km b->Ê ⟨8,p,0,0,0,[],[],s,b⟩
 |uS (l:Ŀ Ù):rE l->Ê ⟨11,[],0,0,0,[],l,[],[]⟩
 |zr (c n:Int):c=12\/c=13->0<=n/\n<=7->Ê ⟨c,[],n,0,0,[],[],[],[]⟩
def ä(k:Zb)(c:Zj):Bool:=fR c.p k.n 12&&c.l.all (λp=>fR p k.n 64)&&c.b.all (ic k.n)&&(decide (c.kind≠5) || decide (c.d<=k.n))
theorem oz{n:Int}:fR [] n 12=true:=by have h:(ï []).toNat<2 ^ n.toNat:=aab _;unfold fR;rw[ă h];rfl
theorem ts:(ZO ⟨0,[],0,0,0,[],[],[],[]⟩).Α true:=Cq.Α.l8 20 (by decide +kernel)
theorem Zn2{k:Zb}(h:æ k){c:Zj}(u:Ê c):(ED k c).Α (ä k c):=by
 have i:=h.n;have B:(Ã ⟨k⟩).Α true:=by have:=E4 h;obtain⟨v,t,h2⟩:=this;have h2:v=true:=h2;subst h2;exact t
 refine⟨_,⟨true,B,Cq.wp.nr rfl ?_⟩,rfl⟩;cases u with
 |hZ c p g hp=>
  have e:ä k ⟨c,p,0,0,0,[],[],[],[]⟩=fR p k.n 12:=by unfold ä;rw[ă (show c≠5 by omega)];simp
  rw[e];have k3:(í ⟨⟨k⟩,⟨c,p,0,0,0,[],[],[],[]⟩⟩ true).Α (fR p k.n 12):=by
   refine Cq.wp.yes rfl ⟨_,J8 i hp 12,?_⟩;cases fR p k.n 12 with
   |false=>exact Cq.wp.nr rfl rfl
   |true=>exact Cq.wp.yes rfl ⟨_,ts,rfl⟩
  rcases g with rfl|rfl|rfl
  .exact Cq.wp.yes rfl k3
  .exact Cq.wp.nr rfl (Cq.wp.yes rfl k3)
  exact Cq.wp.nr rfl (Cq.wp.nr rfl k3)
 |nil c g=>
  have e:ä k ⟨c,[],0,0,0,[],[],[],[]⟩=true:=by unfold ä;rw[ă (show c≠5 by omega),oz];rfl
  rw[e];have k2:(ù ⟨⟨k⟩,⟨c,[],0,0,0,[],[],[],[]⟩⟩ true).Α true:=Cq.wp.yes rfl (by
   rcases g with rfl|rfl
   .exact⟨_,ts,rfl⟩
   exact⟨_,ts,rfl⟩)
  rcases g with rfl|rfl
  .exact Cq.wp.nr rfl (Cq.wp.nr rfl (Cq.wp.nr rfl (Cq.wp.yes rfl k2)))
  exact Cq.wp.nr rfl (Cq.wp.nr rfl (Cq.wp.nr rfl (Cq.wp.nr rfl k2)))
 |GM o l y f=>
  have e:ä k ⟨4,[],0,0,0,o,l,[],[]⟩=l.all λp=>fR p k.n 64:=by unfold ä;rw[oz];simp
  rw[e];refine Cq.wp.nr rfl (Cq.wp.nr rfl (Cq.wp.nr rfl (Cq.wp.nr rfl (Cq.wp.nr rfl (Cq.wp.yes rfl ⟨true,E3 (kC.of (jT.b (.inl y)).1),_,Tq i f.1 f.2,?_⟩)))));cases l.all λp=>fR p k.n 64 with
  |false=>exact Cq.wp.nr rfl rfl
  |true=>exact Cq.wp.yes rfl ⟨_,ts,rfl⟩
 |BJ n d j x=>
  have e:ä k ⟨5,[],n,d,0,[],[],[],[]⟩=decide (d<=k.n):=by unfold ä;rw[oz];simp
  rw[e];refine Cq.wp.nr rfl (Cq.wp.nr rfl (Cq.wp.nr rfl (Cq.wp.nr rfl (Cq.wp.nr rfl (Cq.wp.nr rfl (Cq.wp.yes rfl (Cq.wp.yes x.1 ?_)))))));by_cases a:d<=k.n
  .rw[ă a];exact Cq.wp.yes a ⟨true,Cq.wp.yes j.1 (ă (show n<=1000000 by omega)),Cq.wp.yes rfl ⟨_,ts,rfl⟩⟩
  rw[ĉ a];exact Cq.wp.no a rfl
 |HD n d r hr=>
  have e:ä k ⟨6,[],n,d,r,[],[],[],[]⟩=true:=by unfold ä;rw[oz];rfl
  rw[e];refine Cq.wp.nr rfl (Cq.wp.nr rfl (Cq.wp.nr rfl (Cq.wp.nr rfl (Cq.wp.nr rfl (Cq.wp.nr rfl (Cq.wp.nr rfl (Cq.wp.yes rfl ?_)))))));exact Cq.wp.yes hr.1 (Cq.wp.yes hr.2.1 (Cq.wp.yes hr.2.2.1 ⟨true,Cq.wp.yes (show 0<=n by omega) (ă (show n<=1000000 by omega)),Cq.wp.yes rfl ⟨_,ts,rfl⟩⟩))
 |box b m=>
  have e:ä k ⟨7,[],0,0,0,[],[],[],b⟩=b.all (ic k.n):=by unfold ä;rw[oz];simp
  rw[e];refine Cq.wp.nr rfl (Cq.wp.nr rfl (Cq.wp.nr rfl (Cq.wp.nr rfl (Cq.wp.nr rfl (Cq.wp.nr rfl (Cq.wp.nr rfl (Cq.wp.nr rfl (Cq.wp.yes rfl ⟨_,SC i m,?_⟩))))))));cases b.all (ic k.n)with
  |false=>exact Cq.wp.nr rfl rfl
  |true=>exact Cq.wp.yes rfl ⟨_,ts,rfl⟩
 |sig p s b hp A f m=>
  have e:ä k ⟨8,p,0,0,0,[],[],s,b⟩=(fR p k.n 12&&b.all (ic k.n)):=by unfold ä;simp
  rw[e];refine Cq.wp.nr rfl (Cq.wp.nr rfl (Cq.wp.nr rfl (Cq.wp.nr rfl (Cq.wp.nr rfl (Cq.wp.nr rfl (Cq.wp.nr rfl (Cq.wp.nr rfl (Cq.wp.nr rfl (Cq.wp.yes rfl ⟨_,J8 i hp 12,?_⟩)))))))));cases fR p k.n 12 with
  |false=>rfl
  |true=>
   refine⟨_,SC i m,?_⟩;cases b.all (ic k.n)with
   |false=>rfl
   |true=>exact Cq.wp.yes (show(s.length:Int)=(b.length:Int) by rw[f]) ⟨true,Zxv A,Cq.wp.yes rfl ⟨_,ts,rfl⟩⟩
 |uS l f=>
  have e:ä k ⟨11,[],0,0,0,[],l,[],[]⟩=l.all λp=>fR p k.n 64:=by unfold ä;rw[oz];simp
  rw[e];refine Cq.wp.nr rfl (Cq.wp.nr rfl (Cq.wp.nr rfl (Cq.wp.nr rfl (Cq.wp.nr rfl (Cq.wp.nr rfl (Cq.wp.nr rfl (Cq.wp.nr rfl (Cq.wp.nr rfl (Cq.wp.nr rfl (Cq.wp.yes rfl ⟨_,Tq i f.1 f.2,?_⟩))))))))));cases l.all λp=>fR p k.n 64 with
  |false=>exact Cq.wp.nr rfl rfl
  |true=>exact Cq.wp.yes rfl ⟨_,ts,rfl⟩
 |zr c n g j=>
  have e:ä k ⟨c,[],n,0,0,[],[],[],[]⟩=true:=by unfold ä;rw[ă (show c≠5 by omega),oz];rfl
  rw[e];have q:(ø ⟨⟨k⟩,⟨c,[],n,0,0,[],[],[],[]⟩⟩ true).Α true:=
   Cq.wp.yes rfl ⟨true,Cq.wp.yes j.1 (ă (show n<=1000000 by omega)),Cq.wp.yes rfl ⟨_,ts,rfl⟩⟩
  rcases g with rfl|rfl
  .exact Cq.wp.nr rfl (Cq.wp.nr rfl (Cq.wp.nr rfl (Cq.wp.nr rfl (Cq.wp.nr rfl (Cq.wp.nr rfl (Cq.wp.nr rfl (Cq.wp.nr rfl (Cq.wp.nr rfl (Cq.wp.nr rfl (Cq.wp.nr rfl (Cq.wp.yes rfl q)))))))))))
  exact Cq.wp.nr rfl (Cq.wp.nr rfl (Cq.wp.nr rfl (Cq.wp.nr rfl (Cq.wp.nr rfl (Cq.wp.nr rfl (Cq.wp.nr rfl (Cq.wp.nr rfl (Cq.wp.nr rfl (Cq.wp.nr rfl (Cq.wp.nr rfl (Cq.wp.nr rfl q)))))))))))
end Go.EL

namespace Go.EL
open Go.IntKind (i8 i16 i32 i64 u8 u16 u32 u64)
open Go Go.RowKit
theorem Zvb{k:Zb}(h:æ k){c:Zj}(y:Ê c):(Fu k c).Α (ä k c):=by
 have m:=h.n;refine⟨true,J7 h,Cq.wp.nr rfl ?_⟩;have a:(wV [] k.n 12).Α true:=by have:=Em m (ω.of ĳ:ω []) 12;rwa [oz]at this
 cases y with
 |hZ c p q hp=>
  have e:ä k ⟨c,p,0,0,0,[],[],[],[]⟩=fR p k.n 12:=by unfold ä;rw[ă (show c≠5 by omega)];simp
  rw[e];refine Cq.wp.yes rfl (Cq.wp.yes rfl ⟨_,Em m hp 12,?_⟩);have k3:(Ao k ⟨c,p,0,0,0,[],[],[],[]⟩ (decide ((0:Int)=0)) (fR p k.n 12) true).Α (fR p k.n 12):=by
   refine Cq.wp.yes rfl ?_;cases fR p k.n 12 with
   |false=>exact Cq.wp.nr rfl rfl
   |true=>exact Cq.wp.yes rfl (Cq.wp.yes rfl (Cq.wp.yes rfl (Cq.wp.yes rfl (Cq.wp.yes rfl rfl))))
  rcases q with rfl|rfl|rfl
  .exact Cq.wp.yes rfl k3
  .exact Cq.wp.nr rfl (Cq.wp.yes rfl k3)
  exact Cq.wp.nr rfl (Cq.wp.nr rfl k3)
 |nil c q=>
  have e:ä k ⟨c,[],0,0,0,[],[],[],[]⟩=true:=by unfold ä;rw[ă (show c≠5 by omega),oz];rfl
  rw[e];refine Cq.wp.yes rfl (Cq.wp.yes rfl ⟨_,a,?_⟩);have k2:(Es k ⟨c,[],0,0,0,[],[],[],[]⟩ (decide ((0:Int)=0)) true true).Α true:=
   Cq.wp.yes rfl (Cq.wp.yes rfl (Cq.wp.yes rfl (Cq.wp.yes rfl (Cq.wp.yes rfl (Cq.wp.yes rfl rfl)))))
  rcases q with rfl|rfl
  .exact Cq.wp.nr rfl (Cq.wp.nr rfl (Cq.wp.nr rfl (Cq.wp.yes rfl k2)))
  exact Cq.wp.nr rfl (Cq.wp.nr rfl (Cq.wp.nr rfl (Cq.wp.nr rfl k2)))
 |GM o l B j=>
  have e:ä k ⟨4,[],0,0,0,o,l,[],[]⟩=l.all λp=>fR p k.n 64:=by unfold ä;rw[oz];simp
  rw[e];refine Cq.wp.yes rfl (Cq.wp.yes rfl ⟨_,a,Cq.wp.nr rfl (Cq.wp.nr rfl (Cq.wp.nr rfl (Cq.wp.nr rfl (Cq.wp.nr rfl (Cq.wp.yes rfl ?_)))))⟩);exact Cq.wp.yes rfl (Cq.wp.yes rfl (Cq.wp.yes rfl (Cq.wp.yes rfl ⟨true,EC (kC.of (jT.b (.inl B)).1),Cq.wp.yes (by have:=j.1;show(l.length:Int)<=64;omega) ⟨_,Sq m j.1 j.2,rfl⟩⟩)))
 |BJ n d t A=>
  have e:ä k ⟨5,[],n,d,0,[],[],[],[]⟩=decide (d<=k.n):=by unfold ä;rw[oz];simp
  rw[e];have g:∀v,(wO k ⟨5,[],n,d,0,[],[],[],[]⟩ v).Α (decide (d<=k.n)):=λv=>by
   refine⟨_,a,Cq.wp.nr rfl (Cq.wp.nr rfl (Cq.wp.nr rfl (Cq.wp.nr rfl (Cq.wp.nr rfl (Cq.wp.nr rfl (Cq.wp.yes rfl ?_))))))⟩;refine Cq.wp.yes rfl (Cq.wp.yes rfl (Cq.wp.yes rfl (Cq.wp.yes rfl (Cq.wp.yes rfl (Cq.wp.yes rfl (Cq.wp.yes A.1 ?_))))));by_cases i:d<=k.n
   .rw[ă i];exact Cq.wp.yes i ⟨true,Cq.wp.yes t.1 (ă (show n<=1000000 by omega)),rfl⟩
   rw[ĉ i];exact Cq.wp.no i rfl
  by_cases f:n=0
  .by_cases h2:d=0
   .exact Cq.wp.yes f (Cq.wp.yes h2 (g _))
   exact Cq.wp.yes f (Cq.wp.no h2 (g _))
  exact Cq.wp.no f (g _)
 |HD n d r hr=>
  have e:ä k ⟨6,[],n,d,r,[],[],[],[]⟩=true:=by unfold ä;rw[oz];rfl
  rw[e];have g:∀v,(wO k ⟨6,[],n,d,r,[],[],[],[]⟩ v).Α true:=λv=>by refine⟨_,a,Cq.wp.nr rfl (Cq.wp.nr rfl (Cq.wp.nr rfl (Cq.wp.nr rfl (Cq.wp.nr rfl (Cq.wp.nr rfl (Cq.wp.nr rfl (Cq.wp.yes rfl ?_)))))))⟩;exact Cq.wp.yes rfl (Cq.wp.yes rfl (Cq.wp.yes rfl (Cq.wp.yes rfl (Cq.wp.yes rfl ⟨true,Cq.wp.yes (show 0<=n by omega) (ă (show n<=1000000 by omega)),Cq.wp.yes hr.1 (Cq.wp.yes hr.2.1 (ă hr.2.2.1))⟩))))
  by_cases f:n=0
  .by_cases h2:d=0
   .exact Cq.wp.yes f (Cq.wp.yes h2 (g _))
   exact Cq.wp.yes f (Cq.wp.no h2 (g _))
  exact Cq.wp.no f (g _)
 |box b u=>
  have e:ä k ⟨7,[],0,0,0,[],[],[],b⟩=b.all (ic k.n):=by unfold ä;rw[oz];simp
  rw[e];refine Cq.wp.yes rfl (Cq.wp.yes rfl ⟨_,a,Cq.wp.nr rfl (Cq.wp.nr rfl (Cq.wp.nr rfl (Cq.wp.nr rfl (Cq.wp.nr rfl (Cq.wp.nr rfl (Cq.wp.nr rfl (Cq.wp.nr rfl (Cq.wp.yes rfl ?_))))))))⟩);exact Cq.wp.yes rfl (Cq.wp.yes rfl (Cq.wp.yes rfl (Cq.wp.yes rfl (Cq.wp.yes rfl ⟨_,RG m u,rfl⟩))))
 |sig p s b hp C j u=>
  have e:ä k ⟨8,p,0,0,0,[],[],s,b⟩=(fR p k.n 12&&b.all (ic k.n)):=by unfold ä;simp
  rw[e];refine Cq.wp.yes rfl (Cq.wp.yes rfl ⟨_,Em m hp 12,Cq.wp.nr rfl (Cq.wp.nr rfl (Cq.wp.nr rfl (Cq.wp.nr rfl (Cq.wp.nr rfl (Cq.wp.nr rfl (Cq.wp.nr rfl (Cq.wp.nr rfl (Cq.wp.nr rfl (Cq.wp.yes rfl ?_)))))))))⟩);cases fR p k.n 12 with
  |false=>exact Cq.wp.nr rfl rfl
  |true=>
   refine Cq.wp.yes rfl (Cq.wp.yes rfl (Cq.wp.yes rfl (Cq.wp.yes rfl ⟨_,RG m u,?_⟩)));cases b.all (ic k.n)with
   |false=>rfl
   |true=>exact Cq.wp.yes (show(s.length:Int)=(b.length:Int) by rw[j]) ⟨true,Zvf C,rfl⟩
 |uS l j=>
  have e:ä k ⟨11,[],0,0,0,[],l,[],[]⟩=l.all λp=>fR p k.n 64:=by unfold ä;rw[oz];simp
  rw[e];refine Cq.wp.yes rfl (Cq.wp.yes rfl ⟨_,a,Cq.wp.nr rfl (Cq.wp.nr rfl (Cq.wp.nr rfl (Cq.wp.nr rfl (Cq.wp.nr rfl (Cq.wp.nr rfl (Cq.wp.nr rfl (Cq.wp.nr rfl (Cq.wp.nr rfl (Cq.wp.nr rfl (Cq.wp.yes rfl ?_))))))))))⟩);exact Cq.wp.yes rfl (Cq.wp.yes rfl (Cq.wp.yes rfl (Cq.wp.yes rfl (Cq.wp.yes rfl (Cq.wp.yes (by have:=j.1;show(l.length:Int)<=64;omega) ⟨_,Sq m j.1 j.2,rfl⟩)))))
 |zr c n q t=>
  have e:ä k ⟨c,[],n,0,0,[],[],[],[]⟩=true:=by unfold ä;rw[ă (show c≠5 by omega),oz];rfl
  rw[e];have x:(Er ⟨c,[],n,0,0,[],[],[],[]⟩ true).Α true:=
   Cq.wp.yes rfl (Cq.wp.yes rfl (Cq.wp.yes rfl (Cq.wp.yes rfl (Cq.wp.yes rfl (Cq.wp.yes rfl (Cq.wp.yes rfl (Cq.wp.yes rfl ⟨true,Cq.wp.yes t.1 (ă (show n<=1000000 by omega)),rfl⟩)))))))
  have g:∀v,(wO k ⟨c,[],n,0,0,[],[],[],[]⟩ v).Α true:=λv=>by
   refine⟨_,a,?_⟩;rcases q with rfl|rfl
   .exact Cq.wp.nr rfl (Cq.wp.nr rfl (Cq.wp.nr rfl (Cq.wp.nr rfl (Cq.wp.nr rfl (Cq.wp.nr rfl (Cq.wp.nr rfl (Cq.wp.nr rfl (Cq.wp.nr rfl (Cq.wp.nr rfl (Cq.wp.nr rfl (Cq.wp.yes rfl x)))))))))))
   exact Cq.wp.nr rfl (Cq.wp.nr rfl (Cq.wp.nr rfl (Cq.wp.nr rfl (Cq.wp.nr rfl (Cq.wp.nr rfl (Cq.wp.nr rfl (Cq.wp.nr rfl (Cq.wp.nr rfl (Cq.wp.nr rfl (Cq.wp.nr rfl (Cq.wp.nr rfl x)))))))))))
  by_cases f:n=0
  .exact Cq.wp.yes f (Cq.wp.yes rfl (g _))
  exact Cq.wp.no f (g _)
end Go.EL

namespace Go.EL
open Go.IntKind (i8 i16 i32 i64 u8 u16 u32 u64)
open Go Go.RowKit
theorem SE{p q:Ù}(hp:ω p)(a:ω q):decide (ì p q=0)=decide (p=q):=by refine ŧ.2 ⟨AR hp.gp a.gp,?_⟩;rintro rfl;exact xi p
theorem SY{p q:Ù}(hp:ω p)(a:ω q):(ZU p q).Α (decide (p=q)):=by have:=E2 hp.gp a.gp;rwa [SE hp a]at this
theorem R6{p q:Ù}(hp:ω p)(a:ω q):(tQ p q).Α (decide (p=q)):=by have:=Kf hp.gp a.gp;rwa [SE hp a]at this
def n4(a b:Ord)(k:Nat):Bool:=decide (a[k]?=b[k]?)
theorem Ug{a b:Ord}(h:a.length=b.length):(List.range a.length).all (n4 a b)=decide (a=b):=by
 rw[abD,Ć,Ě];constructor
 .intro c;refine Ź λk=>?_;by_cases d:k<a.length
  .exact ĥ (c k (ĺ.2 d))
  rw[ł ŉ,ł ŉ]
 rintro rfl k _;exact ă rfl
theorem Uf{a b:Ord}{k:Nat}(c:k<a.length)(d:k<b.length):n4 a b k=decide (a[k]=b[k]):=by unfold n4;rw[Ą c,Ą d];exact ŧ.2 ⟨λe=>ů e,λe=>đ some e⟩
theorem ZsA{a b:Ord}(f:a.length<=1000):(Eh a b).Α (decide (a=b)):=by
 by_cases d:a.length=b.length
 .refine Cq.wp.no (λe=>e ŉ) ?_;rw[<-Ug d];refine xn (y5 a.length f (n4 a b) (λk c=>?_) ?_) rfl rfl
  .rw[Uf c ŉ];refine Cq.wp.yes ŉ ⟨_,Κ c,_,Κ (show k<b.length by omega),?_⟩;by_cases e:a[k]=b[k]
   .rw[ă e];exact Cq.wp.no (λh=>h e) rfl
   rw[ĉ e];exact Cq.wp.yes e rfl
  exact Cq.wp.no ŉ rfl
 refine Cq.wp.yes ŉ ?_;show _=_;rw[ĉ λe=>d (đ List.length e)]
theorem ZpG{a b:Ord}(f:a.length<=1000):(FD a b).Α (decide (a=b)):=by
 by_cases d:a.length=b.length
 .refine Cq.wp.no (λe=>e ŉ) ?_;rw[<-Ug d];refine xn (y5 a.length f (n4 a b) (λk c=>?_) ?_) rfl rfl
  .rw[Uf c ŉ];refine Cq.wp.yes ŉ ⟨_,Κ c,_,Κ (show k<b.length by omega),?_⟩;by_cases e:a[k]=b[k]
   .rw[ă e];exact Cq.wp.no (λh=>h e) rfl
   rw[ĉ e];exact Cq.wp.yes e rfl
  exact Cq.wp.no ŉ rfl
 refine Cq.wp.yes ŉ ?_;show _=_;rw[ĉ λe=>d (đ List.length e)]
theorem Ê.parts{c:Zj}(h:Ê c):ω c.p/\jT c.o/\(0<=c.n/\c.n<=15)/\(0<=c.r/\c.r<=15)/\c.b.length<=3:=by
 have p0:ω []:=ω.of ĳ;have o0:jT []:=(eV.nil 0).o;have z:(0:Int)<=0/\(0:Int)<=15:=ĳ;have l0:([]:Ŀ (Ŀ Zl)).length<=3:=ĳ;cases h with
 |hZ c p _ hp=>exact⟨hp,o0,z,z,l0⟩
 |nil c _=>exact⟨p0,o0,z,z,l0⟩
 |GM o l f _=>exact⟨p0,.inl f,z,z,l0⟩
 |BJ n d e _=>exact⟨p0,o0,e,z,l0⟩
 |HD n d r h=>exact⟨p0,o0,by show 0<=n/\n<=15;omega,by show 0<=r/\r<=15;omega,l0⟩
 |box b a=>exact⟨p0,o0,z,z,a.1⟩
 |sig p s b hp _ _ a=>exact⟨hp,o0,z,z,a.1⟩
 |uS l _=>exact⟨p0,o0,z,z,l0⟩
 |zr c n _ e=>exact⟨p0,o0,by show 0<=n/\n<=15;omega,z,l0⟩
def qE(k:Zb)(q:Zc)(c:Zj):Bool:=
 if q.kind=1 then decide (c.kind=1\/c.kind=2)&&decide (q.p=c.p)
 else if q.kind=2 then decide (c.kind=3) || (decide (c.kind=2)&&decide (k.ε=[])&&decide (c.p=iW))
 else if q.kind=3 then decide (c.kind=4)&&decide (q.o=c.o)
 else if q.kind=4 then decide (c.kind=5)
 else if q.kind=5 then decide (c.kind=6)
 else if q.kind=6 then decide (c.kind=7)
 else if q.kind=7 then decide (c.kind=8)&&decide (q.p=c.p)
 else if q.kind=8 then decide (c.kind=9) || decide (c.kind=6) || (decide (c.kind=13)&&decide (1<=c.n))
 else if q.kind=9 then decide (c.kind=10)&&decide (q.p=c.p)
 else if q.kind=10 then decide (c.kind=11)else false
theorem ZT{α:Type}{p:Prop}[Decidable p]{A B:Cq α}{a b:α}(c:p->A.Α a)(h2:¬p->B.Α b):(if p then A else B).Α (if p then a else b):=by
 by_cases h:p
 .refine Cq.wp.yes h ?_;rw[ą h];exact c h
 refine Cq.wp.no h ?_;rw[ā h];exact h2 h
theorem pw{p:Prop}[Decidable p]{A:Cq Bool}{b:Bool}(h:A.Α b):(if p then A else Cq.ret false).Α (decide p&&b):=by
 by_cases hp:p
 .rw[ă hp,ŝ];exact Cq.wp.yes hp h
 rw[ĉ hp,Ŭ];exact Cq.wp.no hp rfl
theorem CD{α:Type}[DecidableEq α](l:Ŀ α):decide ((l.length:Int)=0)=decide (l=[]):=by
 cases l with
 |nil=>rfl
 |cons a l=>simp;omega
theorem ZsP{k:Zb}{q:Zc}(j:eV q){c:Zj}(g:Ê c):(Ju k q c).Α (qE k q c):=by
 obtain⟨hp,i,_⟩:=g.parts;have f:(Cq.bind (ZU c.p q.p) λy=>Cq.ret y).Α (decide (q.p=c.p)):=by have:=SY hp j.p;rw[show decide (c.p=q.p)=decide (q.p=c.p)from ŧ.2 ⟨Eq.symm,Eq.symm⟩]at this;exact⟨_,this,rfl⟩
 have hr:(Cq.bind (Eh c.o q.o) λy=>Cq.ret y).Α (decide (q.o=c.o)):=by have:=ZsA (b:=q.o) (show c.o.length<=1000 by have:=(kC.of i.b.1).len;omega);rw[show decide (c.o=q.o)=decide (q.o=c.o)from ŧ.2 ⟨Eq.symm,Eq.symm⟩]at this;exact⟨_,this,rfl⟩
 unfold qE;refine ZT (λ_=>?_) λ_=>ZT (λ_=>?_) λ_=>ZT (λ_=>pw hr) λ_=>ZT (λ_=>rfl) λ_=>ZT (λ_=>rfl) λ_=>ZT (λ_=>rfl) λ_=>ZT (λ_=>pw f) λ_=>ZT (λ_=>?_) λ_=>ZT (λ_=>pw f) λ_=>ZT (λ_=>rfl) λ_=>rfl
 .by_cases a:c.kind=1
  .rw[ă (show c.kind=1\/c.kind=2 from .inl a),ŝ];exact Cq.wp.yes a f
  rw[show decide (c.kind=1\/c.kind=2)=decide (c.kind=2)from ŧ.2 ⟨λh=>h.resolve_left a,.inr⟩];exact Cq.wp.no a (pw f)
 .refine⟨ü 1,(xB (n:=1) ĳ).2,iW,qa,?_⟩;by_cases h3:c.kind=3
  .rw[ă h3,ū];exact Cq.wp.yes h3 rfl
  rw[ĉ h3,ļ,Bool.and_assoc,<-CD];exact Cq.wp.no h3 (pw (pw ⟨_,SY hp Bj,rfl⟩))
 by_cases e:c.kind=9
 .rw[ă e,ū,ū];exact Cq.wp.yes e rfl
 rw[ĉ e,ļ];refine Cq.wp.no e ?_;by_cases d:c.kind=6
 .rw[ă d,ū];exact Cq.wp.yes d rfl
 rw[ĉ d,ļ];exact Cq.wp.no d (pw rfl)
theorem Zrj{k:Zb}{q:Zc}(f:eV q){c:Zj}(g:Ê c):(J2 k q c).Α (qE k q c):=by
 obtain⟨hp,i,_⟩:=g.parts;refine⟨_,R6 f.p hp,?_⟩;have hr:(Cq.bind (FD q.o c.o) λy=>Cq.ret y).Α (decide (q.o=c.o)):=⟨_,ZpG (show q.o.length<=1000 by have:=(kC.of f.o.b.1).len;omega),rfl⟩;unfold qE;refine ZT (λ_=>?_) λ_=>ZT (λ_=>?_) λ_=>ZT (λ_=>pw hr) λ_=>ZT (λ_=>rfl) λ_=>ZT (λ_=>rfl) λ_=>ZT (λ_=>rfl) λ_=>ZT (λ_=>pw rfl) λ_=>ZT (λ_=>?_) λ_=>ZT (λ_=>pw rfl) λ_=>ZT (λ_=>rfl) λ_=>rfl
 .by_cases a:c.kind=1
  .rw[ă (show c.kind=1\/c.kind=2 from .inl a),ŝ];exact Cq.wp.yes a rfl
  rw[show decide (c.kind=1\/c.kind=2)=decide (c.kind=2)from ŧ.2 ⟨λh=>h.resolve_left a,.inr⟩];exact Cq.wp.no a (pw rfl)
 .by_cases h3:c.kind=3
  .rw[ă h3,ū];exact Cq.wp.yes h3 rfl
  rw[ĉ h3,ļ,show(decide (c.kind=2)&&decide (k.ε=[])&&decide (c.p=iW))=(decide (k.ε=[])&&(decide (c.kind=2)&&decide (c.p=iW))) by rw[Bool.and_comm (decide (c.kind=2)),Bool.and_assoc],<-CD];exact Cq.wp.no h3 (pw (pw ⟨_,(xB (n:=1) ĳ).1,iW,qd,_,R6 hp Bj,rfl⟩))
 by_cases e:c.kind=9
 .rw[ă e,ū,ū];exact Cq.wp.yes e rfl
 rw[ĉ e,ļ];refine Cq.wp.no e ?_;by_cases d:c.kind=6
 .rw[ă d,ū];exact Cq.wp.yes d rfl
 rw[ĉ d,ļ];exact Cq.wp.no d (pw rfl)
def mg(q:Zc)(c:Zj):Int×Int:=
 if q.kind=5 then(if c.kind=6 then(c.n,c.n)else if c.kind=12 then(0,c.n)else(0,-1))
 else if q.kind=8\/q.kind=6 then(if c.kind=6 then(c.r,c.r)else if c.kind=7\/c.kind=8 then((c.b.length:Int),(c.b.length:Int))else if c.kind=9 then(0,0)else if c.kind=13 then(c.n,-1)else if c.kind=12 then(0,c.n)else(0,-1))
 else(0,-1)
theorem ZuR(q:Zc)(c:Zj):(JH q c).Α (mg q c):=by
 have e:(DT c (decide (c.kind=8))).Α (if c.kind=8 then((c.b.length:Int),(c.b.length:Int))else if c.kind=9 then(0,0)else if c.kind=13 then(c.n,-1)else if c.kind=12 then(0,c.n)else(0,-1)):=by
  by_cases a:c.kind=8
  .rw[ą a];exact Cq.wp.yes (ă a) rfl
  rw[ā a];exact Cq.wp.no (by simpa using a) (ZT (λ_=>rfl) λ_=>ZT (λ_=>rfl) λ_=>ZT (λ_=>rfl) λ_=>rfl)
 have k2:(DU c true).Α (if c.kind=6 then(c.r,c.r)else if c.kind=7\/c.kind=8 then((c.b.length:Int),(c.b.length:Int))else if c.kind=9 then(0,0)else if c.kind=13 then(c.n,-1)else if c.kind=12 then(0,c.n)else(0,-1)):=by
  refine Cq.wp.yes rfl (ZT (λ_=>rfl) λ_=>?_);by_cases h7:c.kind=7
  .rw[ą (Or.inl h7)];refine Cq.wp.yes h7 ?_;rw[ă h7];exact Cq.wp.yes rfl rfl
  refine Cq.wp.no h7 ?_;rw[show(if c.kind=7\/c.kind=8 then((c.b.length:Int),(c.b.length:Int))else if c.kind=9 then(0,0)else if c.kind=13 then(c.n,-1)else if c.kind=12 then(0,c.n)else(0,-1))=(if c.kind=8 then((c.b.length:Int),(c.b.length:Int))else if c.kind=9 then(0,0)else if c.kind=13 then(c.n,-1)else if c.kind=12 then(0,c.n)else(0,-1)) by simp only[h7,false_or]];exact e
 unfold mg;refine ZT (λ_=>ZT (λ_=>rfl) λ_=>ZT (λ_=>rfl) λ_=>rfl) λ_=>?_;by_cases a:q.kind=8
 .rw[ą (Or.inl a)];refine Cq.wp.yes a ?_;rw[ă a];exact k2
 refine Cq.wp.no a ?_;by_cases d:q.kind=6
 .rw[ą (Or.inr d),ă d];exact k2
 rw[ā ŉ,ĉ d];exact Cq.wp.no ĳ rfl
end Go.EL

namespace Go.EL
open Go.IntKind (i8 i16 i32 i64 u8 u16 u32 u64)
open Go Go.RowKit
theorem zb{α:Type}{p:Prop}[Decidable p]{A B:Cq α}{a b:α}(c:p->A.Α a)(h2:¬p->B.Α b):(if decide p=true then A else B).Α (if p then a else b):=by
 by_cases h:p
 .refine Cq.wp.yes (ă h) ?_;rw[ą h];exact c h
 refine Cq.wp.no (by rw[ĉ h];decide) ?_;rw[ā h];exact h2 h
theorem Ztx(q:Zc)(c:Zj):(Ko q c).Α (mg q c):=by
 have i:(yq c true false).Α (if c.kind=6 then(c.n,c.n)else if c.kind=12 then(0,c.n)else(0,-1)):=
  Cq.wp.yes rfl (zb (λ_=>rfl) λ_=>Cq.wp.yes rfl (zb (λ_=>rfl) λ_=>Cq.wp.nr rfl (Cq.wp.nr rfl (Cq.wp.nr rfl (Cq.wp.nr rfl (Cq.wp.nr rfl (Cq.wp.nr rfl rfl)))))))
 have j:(yq c false false).Α (0,-1):=
  Cq.wp.nr rfl (Cq.wp.nr rfl (Cq.wp.nr rfl (Cq.wp.nr rfl (Cq.wp.nr rfl (Cq.wp.nr rfl (Cq.wp.nr rfl (Cq.wp.nr rfl (Cq.wp.nr rfl (Cq.wp.nr rfl (Cq.wp.nr rfl rfl))))))))))
 have g:(yq c false true).Α (if c.kind=12 then(0,c.n)else if c.kind=6 then(c.r,c.r)else if c.kind=7 then((c.b.length:Int),(c.b.length:Int))else if c.kind=8 then((c.b.length:Int),(c.b.length:Int))else if c.kind=9 then(0,0)else if c.kind=13 then(c.n,-1)else(0,-1)):=by refine Cq.wp.nr rfl (Cq.wp.nr rfl (Cq.wp.nr rfl (Cq.wp.yes rfl (zb (λ_=>rfl) λ_=>Cq.wp.yes rfl (zb (λ_=>rfl) λ_=>Cq.wp.yes rfl (ZT (λ_=>Cq.wp.yes rfl rfl) λ_=>?_))))));exact zb (λ_=>rfl) λ_=>Cq.wp.yes rfl (zb (λ_=>rfl) λ_=>Cq.wp.yes rfl (ZT (λ_=>rfl) λ_=>rfl))
 have h:(if c.kind=12 then(0,c.n)else if c.kind=6 then(c.r,c.r)else if c.kind=7 then((c.b.length:Int),(c.b.length:Int))else if c.kind=8 then((c.b.length:Int),(c.b.length:Int))else if c.kind=9 then(0,0)else if c.kind=13 then(c.n,-1)else(0,-1))=(if c.kind=6 then(c.r,c.r)else if c.kind=7\/c.kind=8 then((c.b.length:Int),(c.b.length:Int))else if c.kind=9 then(0,0)else if c.kind=13 then(c.n,-1)else if c.kind=12 then(0,c.n)else(0,-1)):=by
  by_cases a:c.kind=12
  .simp[a]
  by_cases h7:c.kind=7
  .simp[h7]
  simp[a,h7]
 rw[h]at g;unfold mg;by_cases f:q.kind=8
 .refine Cq.wp.yes f ?_;rw[ā ŉ,ą (Or.inl f),ĉ ŉ];exact g
 refine Cq.wp.no f ?_;by_cases d:q.kind=5
 .rw[ą d,ă d,ĉ ŉ];exact i
 rw[ā d,ĉ d];by_cases e:q.kind=6
 .rw[ą (Or.inr e),ă e];exact g
 rw[ā ŉ,ĉ e];exact j
def CG(a b:Int):Int:=if a<b then b else a
def qL(a b:Int):Int:=if 0<=b then(if a<0 then b else if b<a then b else a)else a
theorem Wr{a b:Int}(c:0<=b)(d:a<0):qL a b=b:=by unfold qL;rw[if_pos c,if_pos d]
theorem B2{a b:Int}(c:0<=b)(d:¬a<0)(h2:b<a):qL a b=b:=by unfold qL;rw[if_pos c,if_neg d,if_pos h2]
theorem Ws{a b:Int}(c:0<=b)(d:¬a<0)(h2:¬b<a):qL a b=a:=by unfold qL;rw[if_pos c,if_neg d,if_neg h2]
theorem Wt{a b:Int}(c:¬0<=b):qL a b=a:=by unfold qL;rw[if_neg c]
def jw(t:Ze)(c:Zj):Ze:=⟨t.id,t.k,t.q,t.χ,CG t.low (mg t.q c).1,qL t.high (mg t.q c).2,t.done || qE t.k t.q c⟩
theorem Rt(c:Zj)(t:Ze):(D5 c t).Α ⟨t.id,t.k,t.q,t.χ,CG t.low (mg t.q c).1,qL t.high (mg t.q c).2,t.done⟩:=by
 refine⟨_,ZuR t.q c,?_⟩;by_cases a:0<=(mg t.q c).2
 .by_cases d:t.high<0
  .rw[Wr a d];exact Cq.wp.yes a (Cq.wp.yes d rfl)
  by_cases h2:(mg t.q c).2<t.high
  .rw[B2 a d h2];exact Cq.wp.yes a (Cq.wp.no d (Cq.wp.yes h2 rfl))
  rw[Ws a d h2];exact Cq.wp.yes a (Cq.wp.no d (Cq.wp.no h2 rfl))
 rw[Wt a];exact Cq.wp.no a rfl
theorem Zw4{t:Ze}(d:eV t.q){c:Zj}(a:Ê c):(Kw t c).Α (jw t c):=by
 refine⟨_,ZsP d a,?_⟩;unfold jw;cases qE t.k t.q c with
 |true=>rw[abA];exact Cq.wp.yes rfl (Rt c _)
 |false=>rw[abN];exact Cq.wp.nr rfl (Rt c _)
theorem Q7(b:Int×Int)(t:Ze):(Ef b t).Α ⟨t.id,t.k,t.q,t.χ,CG t.low b.1,qL t.high b.2,t.done⟩:=by
 by_cases a:0<=b.2
 .by_cases c:t.high<0
  .rw[Wr a c];exact Cq.wp.yes a (Cq.wp.yes c rfl)
  by_cases h2:b.2<t.high
  .rw[B2 a c h2];exact Cq.wp.yes a (Cq.wp.no c (Cq.wp.yes h2 rfl))
  rw[Ws a c h2];exact Cq.wp.yes a (Cq.wp.no c (Cq.wp.no h2 rfl))
 rw[Wt a];exact Cq.wp.no a rfl
theorem Zro{t:Ze}(e:eV t.q){c:Zj}(d:Ê c):(J5 t c).Α (jw t c):=by
 refine⟨_,Ztx t.q c,?_⟩;unfold jw;by_cases a:t.done=true
 .refine Cq.wp.yes a ?_;rw[a,ū];exact Q7 _ _
 refine Cq.wp.no a ⟨_,Zrj e d,?_⟩;rw[show t.done=false by simpa using a,ļ];exact Q7 _ _
theorem A1(l:Ŀ Zj)(t:Ze):(l.foldl jw t).id=t.id/\(l.foldl jw t).k=t.k/\(l.foldl jw t).q=t.q/\(l.foldl jw t).χ=t.χ:=by
 induction l generalizing t with
 |nil=>exact⟨rfl,rfl,rfl,rfl⟩
 |cons c l e=>
  obtain⟨a,h2,h3,d⟩:=e (jw t c);exact⟨a,h2,h3,d⟩
def lj(id Μ:Int)(t:Ze):Ze:=if t.id=id then⟨t.id,t.k,t.q,if t.χ<Μ+1 then Μ+1 else t.χ,t.low,t.high,t.done⟩else t
def stepT(k:Zb)(id:Int)(l:Ŀ Zj)(Μ:Int)(t:Ze):Ze:=lj id Μ (if ÿ t.k=ÿ k then l.foldl jw t else t)
def hQ(B:Zd)(id:Int)(l:Ŀ Zj)(Μ:Int):Zd×Int:=
 if(fv B.t id).2=false then(⟨[],0⟩,380)
 else if Μ<0\/12<Μ then(⟨[],0⟩,1)
 else if l.all (ä (fv B.t id).1.k)=true then(⟨B.t.map (stepT (fv B.t id).1.k id l Μ),B.next⟩,0)
 else(⟨[],0⟩,1)
end Go.EL

namespace Go.EL
open Go.IntKind (i8 i16 i32 i64 u8 u16 u32 u64)
open Go Go.RowKit
theorem ZsQ{l:Ŀ Ze}(a:l.length<=1000):(Z3 l).Α l:=
 ⟨λe=>by subst e;rfl,by rw[Ļ];simp only[small];omega,Ļ l⟩
theorem SN{l:Ŀ Ze}{id:Int}(h:(fv l id).2=true):(fv l id).1∈l/\(fv l id).1.id=id:=by
 unfold fv at h⊢;cases a:l.find? λt=>decide (t.id=id)with
 |none=>rw[a]at h;cases h
 |some t=>exact⟨dV a,by simpa using aaR a⟩
theorem Uh{α:Type}{E:α}(l:Ŀ Zj)(q:l.length<=1000)(f:Zj->Bool)(X:Zd){step:Int×Zd->Cq ((Int×Zd)⊕(α⊕Zd))}
  (h:∀k (g:k<l.length),(step ((k:Int),X)).wp λo=>o=if f l[k]=true then .inl (i64.wrap ((k:Int)+1),X)else .inr (.inl E))
  (a:(step ((l.length:Int),X)).wp λo=>o=.inr (.inr X)):(Cq.loop step (0,X)).wp λo=>o=if l.all f=true then .inr X else .inl E:=by
 refine Cq.Zn l.length (λk s=>s=((k:Int),X)/\∀i (hi:i<l.length),i<k->f l[i]=true) (λk s g m=>?_) (λs m=>?_) ⟨rfl,λi _ hi=>absurd hi (ı _)⟩
 .obtain⟨rfl,d⟩:=m
  refine(step _).mono (λo j=>?_) (h k g)
  subst j
  by_cases c:f l[k]=true
  .rw[ą c]
   refine⟨by rw[ψ ŉ],λi hi n=>?_⟩
   by_cases e:i=k
   .subst e;exact c
   exact d i hi ŉ
  rw[ā c]
  show _=_
  rw[ā λe=>c (Ć.1 e _ (Ă g))]
 obtain⟨rfl,d⟩:=m
 refine(step _).mono (λo j=>?_) a
 subst j
 show _=_
 rw[ą (Ć.2 λx p=>by obtain⟨i,hi,rfl⟩:=ž p;exact d i hi hi)]
theorem Zyc{l:Ŀ Zj}(g:l.length<=1000)(e:∀c∈l,Ê c){t:Ze}(f:eV t.q):(PM l (0,t)).Α (l.foldl jw t):=by
 refine Cq.Zn l.length (λk s=>s=((k:Int),(l.take k).foldl jw t)) (λk s a d=>?_) (λs d=>?_) rfl
 .subst d;refine Cq.wp.yes ŉ ⟨_,Κ a,_,Zw4 (by rw[(A1 _ t).2.2.1];exact f) (e _ (Ă a)),?_⟩;show _=_;rw[ψ ŉ,č a,abg];rfl
 subst d;refine Cq.wp.no ŉ ?_;rw[Ĥ];exact rfl
theorem Zwb{l:Ŀ Zj}(j:l.length<=1000)(g:∀c∈l,Ê c){t own:Ze}(i:eV t.q)(a:jq t.k)(h:jq own.k)(b:Bool):(Qh l (own,b) (0,t)).Α (if ÿ t.k=ÿ own.k then l.foldl jw t else t):=by
 have d:=KU a h;by_cases e:ÿ t.k=ÿ own.k
 .rw[ą e];rw[ă e]at d;refine Cq.Zn l.length (λk s=>s=((k:Int),(l.take k).foldl jw t)) (λk s a ou=>?_) (λs ou=>?_) rfl
  .subst ou;refine Cq.wp.yes ŉ ⟨true,by rw[(A1 _ t).2.1];exact d,Cq.wp.yes rfl ⟨_,Κ a,_,Zro (by rw[(A1 _ t).2.2.1];exact i) (g _ (Ă a)),?_⟩⟩;show _=_;rw[ψ ŉ,č a,abg];rfl
  subst ou;refine Cq.wp.no ŉ ?_;rw[Ĥ];exact rfl
 rw[ā e];rw[ĉ e]at d;refine Cq.Zr ?_;by_cases f:(0:Int)<(l.length:Int)
 .exact Cq.wp.yes f ⟨false,d,Cq.wp.nr rfl rfl⟩
 exact Cq.wp.no f rfl
theorem TK{id Μ:Int}(f:0<=Μ/\Μ<=12){T:Ŀ Ze}{k:Nat}(a:k<T.length)(d:T.length<=1000)(n:Int)(t:Ze):(yA id Μ T (k:Int) n t).wp λo=>o=.inl (T.set k (lj id Μ t),((k+1:Nat):Int),n):=by
 unfold lj;have c:i64.wrap (Μ+1)=Μ+1:=wrap64 ŉ;by_cases e:t.id=id
 .rw[ą e];refine Cq.wp.yes e ⟨_,Κ a,?_⟩;show _=_;rw[ψ ŉ,c,Ĕ]
 rw[ā e];refine Cq.wp.no e ⟨_,Κ a,?_⟩;show _=_;rw[ψ ŉ,Ĕ]
theorem Zv9{id Μ:Int}(f:0<=Μ/\Μ<=12){T:Ŀ Ze}{k:Nat}(d:k<1000)(c:T.length<=1000)(n:Int)(t:Ze):(JO id Μ (k:Int) T n t).wp λo=>o=.inl (((k+1:Nat):Int),T++[lj id Μ t],n):=by
 unfold lj;have a:i64.wrap (Μ+1)=Μ+1:=wrap64 ŉ;have k3:∀u,(Ev (k:Int) T n u).wp λo=>o=.inl (((k+1:Nat):Int),T++[u],n):=λu=>by refine⟨by rw[Ā];simp only[small,ė];omega,?_⟩;show _=_;rw[ψ ŉ]
 by_cases e:t.id=id
 .rw[ą e];refine Cq.wp.yes e ?_;rw[a];exact k3 _
 rw[ā e];exact Cq.wp.no e (k3 _)
theorem ZzZ{f:Ze->Ze}{T:Ŀ Ze}{k:Nat}(a:k<T.length):((T.take k).map f++T.drop k).length=T.length/\((T.take k).map f++T.drop k)[k]?=some T[k]/\((T.take k).map f++T.drop k).set k (f T[k])=(T.take (k+1)).map f++T.drop (k+1):=by
 have c:((T.take k).map f).length=k:=by rw[ć,Č];omega
 refine⟨by rw[Ā,c,Ľ];omega,?_,?_⟩
 .rw[ģ ŉ,c,aaW,Ŧ];exact Ą a
 rw[List.set_append,ā ŉ,c,aaW,ĭ a,aa5,č a,ĩ,Đ];rfl
section
variable {B:Zd}{id:Int}{l:Ŀ Zj}{Μ:Int}
theorem xU(h:(fv B.t id).2=false):hQ B id l Μ=(⟨[],0⟩,380):=by unfold hQ;rw[if_pos h]
theorem sC(h:(fv B.t id).2=true)(a:Μ<0\/12<Μ):hQ B id l Μ=(⟨[],0⟩,1):=by unfold hQ;rw[if_neg (by rw[h];decide),if_pos a]
theorem CI(h:(fv B.t id).2=true)(a:¬(Μ<0\/12<Μ))(h2:l.all (ä (fv B.t id).1.k)=false):hQ B id l Μ=(⟨[],0⟩,1):=by unfold hQ;rw[if_neg (by rw[h];decide),if_neg a,if_neg (by rw[h2];decide)]
theorem uE(h:(fv B.t id).2=true)(a:¬(Μ<0\/12<Μ))(h2:l.all (ä (fv B.t id).1.k)=true):hQ B id l Μ=(⟨B.t.map (stepT (fv B.t id).1.k id l Μ),B.next⟩,0):=by unfold hQ;rw[if_neg (by rw[h];decide),if_neg a,if_pos h2]
end
theorem AH{B:Zd}(h:ç B)(F:B.t.length<=1000)(id:Int){l:Ŀ Zj}(y:l.length<=1000)(x:∀c∈l,Ê c)(Μ:Int):(wW B id l Μ).Α (hQ B id l Μ):=by
 refine⟨_,(AT F id).1,?_⟩;cases d:(fv B.t id).2 with
 |false=>rw[xU d];exact Cq.wp.yes (by rw[d];rfl) rfl
 |true=>
  refine Cq.wp.no (by rw[d];decide) ?_;obtain⟨H,G⟩:=SN d;have m:=(h.can _ H).ck.1.ok;by_cases q:Μ<0
  .rw[sC d (Or.inl q)];exact Cq.wp.yes q rfl
  by_cases h2:12<Μ
  .rw[sC d (Or.inr h2)];exact Cq.wp.no q (Cq.wp.yes h2 rfl)
  have j:¬(Μ<0\/12<Μ):=ŉ;have J:=CI (l:=l) d j;have K:=uE (l:=l) d j;generalize A:fv B.t id=own at *;refine Cq.wp.no q (Cq.wp.no h2 ?_);show(Cq.next _ _).wp _;have key:=Uh (E:=((⟨[],0⟩:Zd),(1:Int))) l y (ä own.1.k) ⟨[],0⟩ (step:=λD=>match D with|(a,i)=>if a<(l.length:Int)then(Cq.Θ l a λL=>Cq.bind (ED own.1.k L) λu=>if(!u)=true then(Cq.ret (.inr (.inl ((Zd.mk [] 0),1))))else(Cq.ret (.inl (i64.wrap (a+1),i))))else(Cq.ret (.inr (.inr i)))) (λk g=>by
   refine Cq.wp.yes ŉ ⟨_,Κ g,_,Zn2 m (x _ (Ă g)),?_⟩;cases ä own.1.k l[k]with
   |false=>exact Cq.wp.yes rfl rfl
   |true=>exact Cq.wp.nr rfl rfl) (Cq.wp.no ŉ rfl)
  refine Cq.eY key ?_;cases hr:l.all (ä own.1.k)with
  |false=>rw[J hr];exact rfl
  |true=>
   rw[K hr];refine⟨_,y4 m,_,ZsQ ŉ,?_⟩;show(Cq.next _ _).wp _;refine Cq.Zn B.t.length (λk s=>s=((B.t.take k).map (stepT own.1.k id l Μ)++B.t.drop k,(k:Int),B.next)) (λk s g t=>?_) (λs t=>?_) (by show _=_;simp)
   .subst t;obtain⟨C,I,n⟩:=ZzZ (f:=stepT own.1.k id l Μ) g;have v:=h.can _ (Ă g);refine Cq.wp.yes ŉ ⟨B.t[k],⟨ŉ,by rw[Ĕ];exact I⟩,_,y4 v.ck.1.ok,?_⟩;have e:stepT own.1.k id l Μ B.t[k]=lj id Μ (if ÿ B.t[k].k=ÿ own.1.k then l.foldl jw B.t[k]else B.t[k]):=rfl;rw[e]at n;by_cases p:ÿ B.t[k].k=ÿ own.1.k
    .rw[ą p]at n;refine Cq.wp.yes p (Cq.eY (Zyc y x v.cq) ?_);refine Cq.mono (yA _ _ _ _ _ _) (λo r=>?_) (TK ŉ (by rw[C];exact g) ŉ B.next _);subst r;show _=_;rw[n]
    rw[ā p]at n;refine Cq.wp.no p ?_;refine Cq.mono (yA _ _ _ _ _ _) (λo r=>?_) (TK ŉ (by rw[C];exact g) ŉ B.next _);subst r;show _=_;rw[n]
   subst t;refine Cq.wp.no ŉ ?_;rw[Ĥ,aag,Ę];exact rfl
theorem Zu8{B:Zd}(h:ç B)(v:B.t.length<=1000)(id:Int){l:Ŀ Zj}(r:l.length<=1000)(q:∀c∈l,Ê c)(Μ:Int):(KQ B id l Μ).Α (hQ B id l Μ):=by
 refine⟨_,(AT v id).2,?_⟩;cases d:(fv B.t id).2 with
 |false=>rw[xU d];exact Cq.wp.yes (by rw[d];rfl) rfl
 |true=>
  refine Cq.wp.no (by rw[d];decide) ?_;obtain⟨y,x⟩:=SN d;have i:=(h.can _ y).ck.1.ok;by_cases j:Μ<0
  .rw[sC d (Or.inl j)];exact Cq.wp.yes j rfl
  by_cases h2:12<Μ
  .rw[sC d (Or.inr h2)];exact Cq.wp.no j (Cq.wp.yes h2 rfl)
  have g:¬(Μ<0\/12<Μ):=ŉ;have C:=CI (l:=l) d g;have D:=uE (l:=l) d g;generalize t:fv B.t id=own at *;refine Cq.wp.no j (Cq.wp.no h2 ?_);show(Cq.next _ _).wp _;have key:=Uh (E:=((⟨[],0⟩:Zd),(1:Int))) l r (ä own.1.k) ⟨[],0⟩ (step:=λu=>match u with|(a,f)=>if a<(l.length:Int)then(Cq.Θ l a λF=>Cq.bind (Fu own.1.k F) λn=>if(!n)=true then(Cq.ret (.inr (.inl ((Zd.mk [] 0),1))))else(Cq.ret (.inl (i64.wrap (a+1),f))))else(Cq.ret (.inr (.inr f)))) (λk e=>by
   refine Cq.wp.yes ŉ ⟨_,Κ e,_,Zvb i (q _ (Ă e)),?_⟩;cases ä own.1.k l[k]with
   |false=>exact Cq.wp.yes rfl rfl
   |true=>exact Cq.wp.nr rfl rfl) (Cq.wp.no ŉ rfl)
  refine Cq.eY key ?_;cases hr:l.all (ä own.1.k)with
  |false=>rw[C hr];exact rfl
  |true=>
   rw[D hr];show(Cq.next _ _).wp _;refine Cq.Zn B.t.length (λk s=>s=((k:Int),(B.t.take k).map (stepT own.1.k id l Μ),B.next)) (λk s e m=>?_) (λs m=>?_) (by show _=_;simp)
   .subst m;have p:=h.can _ (Ă e);refine Cq.wp.yes ŉ ⟨_,Κ e,Cq.eY (Zwb (own:=own.1) r q p.cq p.ck.1.ok.qV i.qV own.2) ?_⟩;refine Cq.mono (JO _ _ _ _ _ _) (λo A=>?_) (Zv9 ŉ ŉ (by rw[ć,Č];omega) B.next _);subst A;show _=_;rw[č e,ĩ];rfl
   subst m;refine Cq.wp.no ŉ ?_;rw[Ĥ];exact rfl
end Go.EL

namespace Go.EL
open Go.IntKind (i8 i16 i32 i64 u8 u16 u32 u64)
open Go Go.RowKit
theorem Zv2{l:Ŀ Zu}(h:∀y∈l,iZ y):∃m:Ŀ Ù,(Lv l 2 2 3 6).Α m/\m.length<=6/\∀p∈m,ω p:=by
 refine⟨(l.take 6).map λy=>iF y 2 2 3,?_,by rw[ć,Č];omega,λp hp=>?_⟩
 .have a:(QZ ((l.take (min l.length 6)).map λy=>iF y 2 2 3)).Α ((l.take 6).map λy=>iF y 2 2 3):=by
   have e:l.take (min l.length 6)=l.take 6:=by
    by_cases f:l.length<=6
    .rw[Ž f,ě (Ċ _),ě f]
    rw[Nat.min_eq_right ŉ]
   rw[e];exact rfl
  refine Cq.Zn (min l.length 6) (λk s=>s=((l.take k).map (λy=>iF y 2 2 3),(k:Int))) (λk s j g=>?_) (λs g=>?_) rfl
  .subst g;have c:k<l.length:=ŉ;refine Cq.wp.yes ŉ (Cq.wp.yes ŉ ⟨_,Κ c,_,Ls (h _ (Ă c)) (n:=2) ĳ ĳ ĳ (k:=3) ĳ,?_,?_⟩)
   .simp only[Ā,ć,Č,ė,small];omega
   show _=_;rw[ψ ŉ,č c,ĩ];rfl
  subst g;by_cases f:l.length<=6
  .exact Cq.wp.no ŉ a
  exact Cq.wp.yes ŉ (Cq.wp.no ŉ a)
 obtain⟨y,i,rfl⟩:=Ğ.1 hp;exact(LJ (h y (ś i)) (n:=2) ĳ (d:=2) ĳ ĳ (k:=3) ĳ).1
def iq(l:Ŀ Ù)(k:Nat):Ù:=if h:0<l.length then l[k % l.length]'(x6 _ h)else[]
theorem T6{l:Ŀ Ù}(h:∀p∈l,ω p)(k:Nat):ω (iq l k):=by
 unfold iq;split
 .exact h _ (Ă _)
 exact ω.of ĳ
theorem TS(a b:Nat):Int.tmod (a:Int) (b:Int)=((a % b:Nat):Int):=by rw[œ ŉ];rfl
theorem T7{l:Ŀ Ù}(p:l.length<=6)(k n:Nat)(m:k<=2)(q:n<=3):(xl l (k:Int) (n:Int)).Α ((List.range n).map λi=>iq l (k+i)):=by
 show(Cq.next _ _).wp _;refine Cq.Zn n (λj s=>s=((List.range j).map (λi=>iq l (k+i)),(j:Int))) (λj s h d=>?_) (λs d=>?_) rfl
 .subst d;have a:∀x:Ù,((List.range j).map (λi=>iq l (k+i))++[x]).length<=small:=λx=>by simp only[Ā,ć,Ż,ė,small];omega
  have next:∀x:Ù,x=iq l (k+j)->((List.range j).map (λi=>iq l (k+i))++[x],i64.wrap ((j:Int)+1))=((List.range (j+1)).map (λi=>iq l (k+i)),((j+1:Nat):Int)):=λx f=>by rw[ψ ŉ,aac,ĩ,f];rfl
  refine Cq.wp.yes ŉ ?_;by_cases g:l.length=0
  .refine Cq.wp.yes ŉ ⟨a _,next _ ?_⟩;unfold iq;rw[dif_neg ŉ]
  have c:(k+j) % l.length<l.length:=x6 _ ŉ;have e:Int.tmod (i64.wrap ((k:Int)+(j:Int))) (l.length:Int)=(((k+j) % l.length:Nat):Int):=by rw[wrap64 ŉ,<-TS];congr 1
  refine Cq.wp.no ŉ ⟨ŉ,_,by rw[e];exact Κ c,a _,next _ ?_⟩;unfold iq;rw[Ÿ ŉ]
 subst d;exact Cq.wp.no ŉ rfl
theorem Zyr{l:Ŀ Ù}(h:∀p∈l,ω p)(k n:Nat)(a:n<=3):rE ((List.range n).map λi=>iq l (k+i)):=
 ⟨by rw[ć,Ż];exact a,λp hp=>by obtain⟨i,_,rfl⟩:=Ğ.1 hp;exact T6 h _⟩
def eT(v:Ŀ Int)(k:Nat):Int:=(v[k % v.length]?).getD 0
theorem yW{v:Ŀ Int}(h:∀x∈v,gN x)(k:Nat):gN (eT v k):=by
 unfold eT;cases e:v[k % v.length]? with
 |none=>show gN 0;decide
 |some x=>exact h x (Ņ e)
theorem vo{v:Ŀ Int}(h:∀x∈v,gN x)(k:Nat):(tR v (k:Int)).Α (eT v k):=by
 by_cases c:v.length=0
 .refine Cq.wp.yes ŉ ?_;show _=_;unfold eT;rw[ł ŉ];rfl
 have a:k % v.length<v.length:=x6 _ ŉ;refine Cq.wp.no ŉ ⟨ŉ,_,by rw[TS];exact Κ a,?_⟩;show _=_;have:=h _ (Ă a);unfold eT;rw[Ą a,wrap64 ŉ];rfl
def n7(y:Int):Int:=i64.wrap (BitVec.ofInt i64.bits y &&& BitVec.ofInt i64.bits 7).toNat
def n3(y:Int):Int:=i64.wrap (BitVec.ofInt i64.bits (n7 y) &&& BitVec.ofInt i64.bits 3).toNat
def n15(y:Int):Int:=i64.wrap (BitVec.ofInt i64.bits y &&& BitVec.ofInt i64.bits 15).toNat
def wh(y:Int):Int:=i64.wrap ((Int.tmod (i64.wrap (BitVec.ofInt i64.bits y &&& BitVec.ofInt i64.bits 127).toNat) 3)-1)
structure rI (y:Int):Prop where
 h7:0<=n7 y/\n7 y<=7
 h3:0<=n3 y/\n3 y<=3
 oN:0<=n15 y/\n15 y<=15
 sg:-1<=wh y/\wh y<=1
 w8:i8.wrap (n7 y)=n7 y/\i8.wrap y=y
 dm:i64.wrap (n3 y-1)=n3 y-1
 pt:0<=i64.wrap (Int.tdiv (n7 y) 2)/\i64.wrap (Int.tdiv (n7 y) 2)<=i64.wrap (n7 y-i64.wrap (Int.tdiv (n7 y) 3))/\i64.wrap (n7 y-i64.wrap (Int.tdiv (n7 y) 3))<=n7 y
def sX(y:Int):Bool:=decide (0<=n7 y/\n7 y<=7)&&decide (0<=n3 y/\n3 y<=3)&&decide (0<=n15 y/\n15 y<=15)&&decide (-1<=wh y/\wh y<=1)&&decide (i8.wrap (n7 y)=n7 y/\i8.wrap y=y)&&decide (i64.wrap (n3 y-1)=n3 y-1)&&decide (0<=i64.wrap (Int.tdiv (n7 y) 2)/\i64.wrap (Int.tdiv (n7 y) 2)<=i64.wrap (n7 y-i64.wrap (Int.tdiv (n7 y) 3))/\i64.wrap (n7 y-i64.wrap (Int.tdiv (n7 y) 3))<=n7 y)
theorem Zxw:á (-128) 127 sX=true:=by decide +kernel
theorem AF{y:Int}(h:gN y):rI y:=by have:=Zq Zxw h.1 h.2;unfold sX at this;simp only[Ĉ,Ě]at this;obtain⟨⟨⟨⟨⟨⟨a,b⟩,c⟩,d⟩,e⟩,f⟩,g⟩:=this;exact⟨a,b,c,d,e,f,g⟩
def mh(v:Ŀ Int)(k:Nat):Ŀ Zl:=nb (eT v k) (eT v (k+1)) (n7 (eT v k))
theorem LC{v:Ŀ Int}(h:∀x∈v,gN x)(k:Nat)(p:k<=3):(Md v (k:Int)).Α (mh v k)/\nL (mh v k):=by
 have p0:=yW h k;have p1:=yW h (k+1);have a:=AF p0;have j:=AF p1;refine⟨?_,_,_,_,p0,p1,a.h7,rfl⟩;have l:nI 0=(0,1):=by decide +kernel
 have m:oP 0 0=(0,1):=by decide +kernel
 have w1:(ZX 0).Α (Ν (nI 0)):=by rw[l];exact(xB (n:=0) ĳ).1
 have w2:(ZX 0).Α (Ν (oP 0 0)):=by rw[m];exact(xB (n:=0) ĳ).1
 have first:(RB (0,List.replicate 8 (Zl.mk (Zf.mk (Zg.mk false []) (Zg.mk false [])) (Zf.mk (Zg.mk false []) (Zg.mk false []))))).Α (List.replicate 8 (l5 0 0)):=by
  iterate 8
   refine Cq.Zr (Cq.wp.yes ĳ ⟨_,w1,_,w2,_,⟨ĳ,rfl⟩,?_⟩)
   show(Cq.loop _ _).wp _
  exact Cq.Zr (Cq.wp.no ĳ rfl)
 refine Cq.eY first ?_
 show(Cq.next _ _).wp _;have d:=ZwU a.h7;have e:i64.wrap ((k:Int)+0)=(k:Int):=by rw[wrap64 ŉ];omega
 have f:∀i:Nat,i<=1->i64.wrap ((k:Int)+(i:Int))=((k+i:Nat):Int):=λi hi=>by rw[wrap64 ŉ];rfl
 have c:∀y,rI y->i8.wrap (i64.wrap (BitVec.ofInt i64.bits y &&& BitVec.ofInt i64.bits 7).toNat)=n7 y:=λy s=>s.w8.1;have g:(RA v (k:Int) (0,List.replicate 8 (l5 0 0))).Α (mh v k):=by refine Cq.Zr (Cq.wp.yes ĳ ⟨_,by rw[e];exact vo h k,_,by rw[a.w8.2];exact U6 p0,_,vo h k,_,by rw[c _ a];exact d,_,U3 p0 a.h7,_,⟨ĳ,rfl⟩,?_⟩);show(Cq.loop _ _).wp _;refine Cq.Zr (Cq.wp.yes ĳ ⟨_,by have:=f 1 ĳ;rw[show((1:Nat):Int)=i64.wrap (0+1)from rfl]at this;rw[this];exact vo h (k+1),_,by rw[j.w8.2];exact U6 p1,_,vo h k,_,by rw[c _ a];exact d,_,U3 p1 a.h7,_,⟨ĳ,rfl⟩,?_⟩);show(Cq.loop _ _).wp _;exact Cq.Zr (Cq.wp.no ĳ rfl)
 exact g
end Go.EL

namespace Go.EL
open Go.IntKind (i8 i16 i32 i64 u8 u16 u32 u64)
open Go Go.RowKit
structure jG (x:ZM):Prop where
 kind:0<=x.kind/\x.kind<=255
 l:∀y∈x.l,iZ y
 v:∀z∈x.v,gN z
theorem RI{v:Ŀ Int}(h:∀z∈v,gN z){N:Nat}(a:N<=3):km ((List.range N).map (mh v)):=
 ⟨by rw[ć,Ż];exact a,λb c=>by
  obtain⟨i,hi,rfl⟩:=Ğ.1 c;exact(LC h i (by have:=ĺ.1 hi;omega)).2⟩
theorem ZvV{v:Ŀ Int}(h:∀z∈v,gN z){N:Nat}(a:N<=3):lu ((List.range N).map λi=>wh (eT v i)):=
 ⟨by rw[ć,Ż];exact a,λb c=>by
  obtain⟨i,_,rfl⟩:=Ğ.1 c;exact(AF (yW h i)).sg⟩
theorem Zw7{x:ZM}(c:jG x)(p:Ù){y:Int}{N:Nat}(f:n3 y=(N:Int))(d:N<=3):(I4 x p y (0,7,[],0,0,0,[],[],[],[])).Α (7,[],0,0,0,[],[],[],(List.range N).map (mh x.v)):=by
 refine Cq.Zn N (λk s=>s=((k:Int),7,[],0,0,0,[],[],[],(List.range k).map (mh x.v))) (λk s e a=>?_) (λs a=>?_) rfl
 .subst a;refine Cq.wp.yes (show(k:Int)<n3 y by omega) ⟨_,(LC c.v k ŉ).1,?_,Cq.wp.no ĳ ?_⟩
  .simp only[Ā,ć,Ż,ė,small];omega
  show _=_;rw[ψ ŉ,aac,ĩ];rfl
 subst a;exact Cq.wp.no (show ¬(N:Int)<n3 y by omega) rfl
theorem Zw8{x:ZM}(c:jG x)(p:Ù){y:Int}{N:Nat}(f:n3 y=(N:Int))(d:N<=3):(I4 x p y (0,8,[],0,0,0,[],[],[],[])).Α (8,if N=0 then[]else p,0,0,0,[],[],(List.range N).map (λi=>wh (eT x.v i)),(List.range N).map (mh x.v)):=by
 refine Cq.Zn N (λk s=>s=((k:Int),8,if k=0 then[]else p,0,0,0,[],[],(List.range k).map (λi=>wh (eT x.v i)),(List.range k).map (mh x.v))) (λk s e a=>?_) (λs a=>?_) rfl
 .subst a;refine Cq.wp.yes (show(k:Int)<n3 y by omega) ⟨_,(LC c.v k ŉ).1,?_,Cq.wp.yes rfl ⟨_,vo c.v k,?_,?_⟩⟩
  .simp only[Ā,ć,Ż,ė,small];omega
  .simp only[Ā,ć,Ż,ė,small];omega
  show _=_;rw[ψ ŉ,aac,ĩ,ĩ,ā (Nat.succ_ne_zero k)];rfl
 subst a;exact Cq.wp.no (show ¬(N:Int)<n3 y by omega) rfl
theorem Zpn{x:ZM}(d:jG x):∃c,(Ec x).Α c/\Ê c:=by
 obtain⟨m,B,t,v⟩:=Zv2 d.l;have s:=yW d.v 1;have f:=AF s;have k:(tR x.v 1).Α (eT x.v 1):=vo d.v 1;generalize eT x.v 1=y at s f k;have j:(xl m 2 1).Α [iq m 2]:=T7 t 2 1 ĳ ĳ;have hp:=T6 v 2;generalize iq m 2=p at j hp;obtain⟨N,n⟩:∃N:Nat,n3 y=(N:Int):=⟨(n3 y).toNat,by have:=f.h3;omega⟩;have a:N<=3:=by have:=f.h3;omega
 have g:(xl m 1 (n3 y)).Α ((List.range N).map λi=>iq m (1+i)):=by rw[n];exact T7 t 1 N ĳ a
 have l:=Zyr v 1 N a;have E:1<=i64.wrap (1+(i64.wrap (Int.tmod x.kind 13)))/\i64.wrap (1+(i64.wrap (Int.tmod x.kind 13)))<=13:=by have:=d.kind;have e:Int.tmod x.kind 13=x.kind % 13:=œ this.1;rw[e,wrap64 (x:=x.kind % 13) ŉ,wrap64 ŉ];omega
 have start:∀c,(if(i64.wrap (1+(i64.wrap (Int.tmod x.kind 13))))=1 then(wQ x m p y (decide ((i64.wrap (1+(i64.wrap (Int.tmod x.kind 13))))=1)))else(if(i64.wrap (1+(i64.wrap (Int.tmod x.kind 13))))=2 then(wQ x m p y (decide ((i64.wrap (1+(i64.wrap (Int.tmod x.kind 13))))=2)))else(wQ x m p y (decide ((i64.wrap (1+(i64.wrap (Int.tmod x.kind 13))))=10))))).Α c->(Ec x).Α c:=
  λc h=>⟨m,B,_,j,p,⟨ĳ,rfl⟩,y,k,h⟩
 rcases (by omega:i64.wrap (1+(i64.wrap (Int.tmod x.kind 13)))=1\/i64.wrap (1+(i64.wrap (Int.tmod x.kind 13)))=2\/i64.wrap (1+(i64.wrap (Int.tmod x.kind 13)))=3\/i64.wrap (1+(i64.wrap (Int.tmod x.kind 13)))=4\/i64.wrap (1+(i64.wrap (Int.tmod x.kind 13)))=5\/i64.wrap (1+(i64.wrap (Int.tmod x.kind 13)))=6\/i64.wrap (1+(i64.wrap (Int.tmod x.kind 13)))=7\/i64.wrap (1+(i64.wrap (Int.tmod x.kind 13)))=8\/i64.wrap (1+(i64.wrap (Int.tmod x.kind 13)))=9\/i64.wrap (1+(i64.wrap (Int.tmod x.kind 13)))=10\/i64.wrap (1+(i64.wrap (Int.tmod x.kind 13)))=11\/i64.wrap (1+(i64.wrap (Int.tmod x.kind 13)))=12\/i64.wrap (1+(i64.wrap (Int.tmod x.kind 13)))=13)with e|e|e|e|e|e|e|e|e|e|e|e|e
 .exact⟨⟨1,p,0,0,0,[],[],[],[]⟩,start _ (Cq.wp.yes e (Cq.wp.yes (ă e) (by show _=_;rw[e]))),.hZ 1 p ĳ hp⟩
 .exact⟨⟨2,p,0,0,0,[],[],[],[]⟩,start _ (Cq.wp.no (by rw[e];decide) (Cq.wp.yes e (Cq.wp.yes (ă e) (by show _=_;rw[e])))),.hZ 2 p ĳ hp⟩
 .exact⟨⟨3,[],0,0,0,[],[],[],[]⟩,start _ (Cq.wp.no (by rw[e];decide) (Cq.wp.no (by rw[e];decide) (Cq.wp.no (by rw[e];decide) (Cq.wp.no (by rw[e];decide) (Cq.wp.no (by rw[e];decide) (Cq.wp.no (by rw[e];decide) (Cq.wp.no (by rw[e];decide) (Cq.wp.no (by rw[e];decide) (Cq.wp.no (by rw[e];decide) (Cq.wp.no (by rw[e];decide) (Cq.wp.no (by rw[e];decide) ((by show _=_;rw[e]))))))))))))),.nil 3 ĳ⟩
 .have h2:=yW d.v 2;have C:(xh (u8.wrap (eT x.v 2))).Α (lU (u8.wrap (eT x.v 2)).toNat):=by
   obtain⟨u,r⟩:∃u:Nat,u8.wrap (eT x.v 2)=(u:Int):=⟨((eT x.v 2) % 256).toNat,by show(eT x.v 2) % 256=_;omega⟩;have D:(u:Int)<=255:=by rw[<-r];show(eT x.v 2) % 256<=255;omega
   rw[r];exact TG ŉ
  exact⟨⟨4,[],0,0,0,_,_,[],[]⟩,start _ (Cq.wp.no (by rw[e];decide) (Cq.wp.no (by rw[e];decide) (Cq.wp.no (by rw[e];decide) (Cq.wp.yes e ⟨_,vo d.v 2,_,C,_,g,(by show _=_;rw[e])⟩)))),.GM _ _ TO l⟩
 .have A:=(AF (yW d.v 3)).oN;exact⟨⟨5,[],n15 (eT x.v 3),n3 y-1,0,[],[],[],[]⟩,start _ (Cq.wp.no (by rw[e];decide) (Cq.wp.no (by rw[e];decide) (Cq.wp.no (by rw[e];decide) (Cq.wp.no (by rw[e];decide) (Cq.wp.yes e ⟨_,vo d.v 3,by show Zj.mk _ _ _ (i64.wrap (n3 y-1)) _ _ _ _ _=_;rw[e,f.dm];rfl⟩))))),.BJ _ _ A (by have:=f.h3;omega)⟩
 .exact⟨⟨6,[],n7 y,i64.wrap (n7 y-i64.wrap (Int.tdiv (n7 y) 3)),i64.wrap (Int.tdiv (n7 y) 2),[],[],[],[]⟩,start _ (Cq.wp.no (by rw[e];decide) (Cq.wp.no (by rw[e];decide) (Cq.wp.no (by rw[e];decide) (Cq.wp.no (by rw[e];decide) (Cq.wp.no (by rw[e];decide) (Cq.wp.yes e (by show _=_;rw[e];rfl))))))),.HD _ _ _ ⟨f.pt.1,f.pt.2.1,f.pt.2.2,f.h7.2⟩⟩
 .have h7:=Zw7 d p n a;rw[<-e]at h7;exact⟨⟨7,[],0,0,0,[],[],[],(List.range N).map (mh x.v)⟩,start _ (Cq.wp.no (by rw[e];decide) (Cq.wp.no (by rw[e];decide) (Cq.wp.no (by rw[e];decide) (Cq.wp.no (by rw[e];decide) (Cq.wp.no (by rw[e];decide) (Cq.wp.no (by rw[e];decide) (Cq.wp.yes e (Cq.wp.yes (ă e) (Cq.eY h7 (Cq.wp.no (by rw[e];decide) (by show _=_;rw[e]))))))))))),.box _ (RI d.v a)⟩
 .have q:=Zw8 d p n a;rw[<-e]at q;exact⟨⟨8,p,0,0,0,[],[],(List.range N).map (λi=>wh (eT x.v i)),(List.range N).map (mh x.v)⟩,start _ (Cq.wp.no (by rw[e];decide) (Cq.wp.no (by rw[e];decide) (Cq.wp.no (by rw[e];decide) (Cq.wp.no (by rw[e];decide) (Cq.wp.no (by rw[e];decide) (Cq.wp.no (by rw[e];decide) (Cq.wp.no (by rw[e];decide) (Cq.wp.yes (ă e) (Cq.eY q (Cq.wp.yes e (by show _=_;rw[e]))))))))))),.sig _ _ _ hp (ZvV d.v a) (by rw[ć,ć]) (RI d.v a)⟩
 .exact⟨⟨9,[],0,0,0,[],[],[],[]⟩,start _ (Cq.wp.no (by rw[e];decide) (Cq.wp.no (by rw[e];decide) (Cq.wp.no (by rw[e];decide) (Cq.wp.no (by rw[e];decide) (Cq.wp.no (by rw[e];decide) (Cq.wp.no (by rw[e];decide) (Cq.wp.no (by rw[e];decide) (Cq.wp.no (by rw[e];decide) (Cq.wp.no (by rw[e];decide) (Cq.wp.no (by rw[e];decide) (Cq.wp.no (by rw[e];decide) ((by show _=_;rw[e]))))))))))))),.nil 9 ĳ⟩
 .exact⟨⟨10,p,0,0,0,[],[],[],[]⟩,start _ (Cq.wp.no (by rw[e];decide) (Cq.wp.no (by rw[e];decide) (Cq.wp.yes (ă e) (by show _=_;rw[e])))),.hZ 10 p ĳ hp⟩
 .exact⟨⟨11,[],0,0,0,[],_,[],[]⟩,start _ (Cq.wp.no (by rw[e];decide) (Cq.wp.no (by rw[e];decide) (Cq.wp.no (by rw[e];decide) (Cq.wp.no (by rw[e];decide) (Cq.wp.no (by rw[e];decide) (Cq.wp.no (by rw[e];decide) (Cq.wp.no (by rw[e];decide) (Cq.wp.no (by rw[e];decide) (Cq.wp.yes e ⟨_,g,(by show _=_;rw[e])⟩))))))))),.uS _ l⟩
 .exact⟨⟨12,[],n7 y,0,0,[],[],[],[]⟩,start _ (Cq.wp.no (by rw[e];decide) (Cq.wp.no (by rw[e];decide) (Cq.wp.no (by rw[e];decide) (Cq.wp.no (by rw[e];decide) (Cq.wp.no (by rw[e];decide) (Cq.wp.no (by rw[e];decide) (Cq.wp.no (by rw[e];decide) (Cq.wp.no (by rw[e];decide) (Cq.wp.no (by rw[e];decide) (Cq.wp.yes e (Cq.wp.yes e (by show _=_;rw[e];rfl)))))))))))),.zr 12 _ ĳ f.h7⟩
 exact⟨⟨13,[],n7 y,0,0,[],[],[],[]⟩,start _ (Cq.wp.no (by rw[e];decide) (Cq.wp.no (by rw[e];decide) (Cq.wp.no (by rw[e];decide) (Cq.wp.no (by rw[e];decide) (Cq.wp.no (by rw[e];decide) (Cq.wp.no (by rw[e];decide) (Cq.wp.no (by rw[e];decide) (Cq.wp.no (by rw[e];decide) (Cq.wp.no (by rw[e];decide) (Cq.wp.no (by rw[e];decide) (Cq.wp.yes e (by show _=_;rw[e];rfl)))))))))))),.zr 13 _ ĳ f.h7⟩
theorem ZuS{x:Zt}(s:∀y∈x.l,jG y):∃l,(AA x).Α l/\l.length<=4/\∀c∈l,Ê c:=by
 have key:∀(m i:Nat),m+i=min x.l.length 4->∀l:Ŀ Zj,l.length=i->(∀c∈l,Ê c)->∃r,(P5 x (l,(i:Int))).Α r/\r.length<=4/\∀c∈r,Ê c:=by
  intro m;induction m with
  |zero=>
   intro i hi l p h2;refine⟨l,Cq.Zr ?_,ŉ,h2⟩;by_cases h:i<x.l.length
   .exact Cq.wp.yes ŉ (Cq.wp.no ŉ rfl)
   exact Cq.wp.no ŉ rfl
  |succ m t=>
   intro i hi l p h2;have e:i<x.l.length:=ŉ;obtain⟨c,k,n⟩:=Zpn (s _ (Ă e));obtain⟨r,f,g,j⟩:=t (i+1) ŉ (l++[c]) (by rw[Ā];simp;omega) (λd a=>by
    rcases Ĩ.1 a with a|a
    .exact h2 d a
    rw[Ē.1 a];exact n)
   refine⟨r,Cq.Zr (Cq.wp.yes ŉ (Cq.wp.yes ŉ ⟨_,Κ e,c,k,?_,?_⟩)),g,j⟩
   .simp only[Ā,ė,small];omega
   show(Cq.loop _ _).wp _;rw[ψ ŉ];exact f
 obtain⟨r,f,g,j⟩:=key (min x.l.length 4) 0 ŉ [] rfl (λc q=>absurd q ĝ);exact⟨r,Cq.eY f rfl,g,j⟩
end Go.EL

namespace Go.EL
open Go.IntKind (i8 i16 i32 i64 u8 u16 u32 u64)
open Go Go.RowKit
theorem ç.map{B:Zd}(h:ç B){f:Ze->Ze}(hi:∀t,(f t).id=t.id)(a:∀t,(f t).k=t.k)(c:∀t,(f t).q=t.q)(l:∀t∈B.t,(0<=(f t).χ/\(f t).χ<=13)/\0<=(f t).low/\-1<=(f t).high):ç ⟨B.t.map f,B.next⟩ where
 can t g:=by obtain⟨u,k,rfl⟩:=Ğ.1 g;rw[a,c];exact h.can u k
 ids i kr:=by
  have h2:i<B.t.length:=by simpa using kr
  show(B.t.map f)[i].id=_;rw[Ũ,hi];exact h.ids i h2
 next:=by show B.next=((B.t.map f).length:Int)+1;rw[ć];exact h.next
 Ü:=by rw[ej];refine h.Ü.imp λ{s t} e=>?_;show gV (f s).k (f s).q≠gV (f t).k (f t).q;rw[a,c,a,c];exact e
 lO i kr x d:=by
  have h2:i<B.t.length:=by simpa using kr
  have d:x∈ò ((B.t.map f)[i]'(by simpa using h2)).q.kind:=d;rw[Ũ,c]at d;obtain⟨j,j2,j3,j4⟩:=h.lO i h2 x d;refine⟨j,by show j<(B.t.map f).length;rw[ć];exact j2,j3,?_⟩;show gV ((B.t.map f)[j]'(by simpa using j2)).k ((B.t.map f)[j]'(by simpa using j2)).q=gV ((B.t.map f)[i]'(by simpa using h2)).k x;rw[Ũ,Ũ,a,c,a];exact j4
 num t g:=by obtain⟨u,k,rfl⟩:=Ğ.1 g;exact l u k
theorem ZzX(l:Ŀ Zj){t:Ze}(h:0<=t.low/\-1<=t.high):0<=(l.foldl jw t).low/\-1<=(l.foldl jw t).high:=by
 induction l generalizing t with
 |nil=>exact h
 |cons c l a=>
  refine a ⟨?_,?_⟩
  .show 0<=CG _ _;unfold CG;split<;>omega
  show -1<=qL _ _;unfold qL;repeat' split
  all_goals omega
theorem Lh(k:Zb)(id:Int)(l:Ŀ Zj)(Μ:Int)(t:Ze):(stepT k id l Μ t).id=t.id/\(stepT k id l Μ t).k=t.k/\(stepT k id l Μ t).q=t.q:=by
 obtain⟨a,h2,h3,_⟩:=A1 l t;unfold stepT lj;by_cases e:ÿ t.k=ÿ k
 .rw[ą e];split
  .exact⟨a,h2,h3⟩
  exact⟨a,h2,h3⟩
 rw[ā e];split<;>exact⟨rfl,rfl,rfl⟩
theorem ZyQ{k:Zb}{id:Int}{l:Ŀ Zj}{Μ:Int}(c:0<=Μ/\Μ<=12){t:Ze}(h:(0<=t.χ/\t.χ<=13)/\0<=t.low/\-1<=t.high):(0<=(stepT k id l Μ t).χ/\(stepT k id l Μ t).χ<=13)/\0<=(stepT k id l Μ t).low/\-1<=(stepT k id l Μ t).high:=by
 have key:∀u:Ze,(0<=u.χ/\u.χ<=13)/\0<=u.low/\-1<=u.high->(0<=(lj id Μ u).χ/\(lj id Μ u).χ<=13)/\0<=(lj id Μ u).low/\-1<=(lj id Μ u).high:=λu a=>by
  unfold lj;split
  .refine⟨?_,a.2⟩;show 0<=(if u.χ<Μ+1 then Μ+1 else u.χ)/\(if u.χ<Μ+1 then Μ+1 else u.χ)<=13;split<;>omega
  exact a
 unfold stepT;refine key _ ?_;split
 .rw[(A1 l t).2.2.2];exact⟨h.1,ZzX l h.2⟩
 exact h
theorem Zw9{B:Zd}(h:ç B){id:Int}{l:Ŀ Zj}{Μ:Int}(a:(hQ B id l Μ).2=0):ç (hQ B id l Μ).1/\(hQ B id l Μ).1.t.length=B.t.length:=by
 unfold hQ at a⊢;split at a
 .cases a
 split at a
 .cases a
 split at a
 .rw[ā ‹_›,ā ‹_›,ą ‹_›];exact⟨h.map (λt=>(Lh _ _ _ _ t).1) (λt=>(Lh _ _ _ _ t).2.1) (λt=>(Lh _ _ _ _ t).2.2) λt c=>ZyQ ŉ (h.num t c),ć _⟩
 cases a
structure jZ (x:Zt):Prop where
 fX:0<=x.fX/\x.fX<=255
 c:ij x.c
 kind:0<=x.kind/\x.kind<=255
 p:iZ x.p
 o:0<=x.o/\x.o<=255
 l:∀y∈x.l,jG y
structure rF (x:Zt) (k:Zb) (q:Zc) (l:Ŀ Zj):Prop where
 core:(A8 x).Α k
 asks:(A7 x k).Α q
 nd:(AA x).Α l
 k:Þ k
 q:eV q
 len:l.length<=4
 l:∀c∈l,Ê c
theorem Zx2{x:Zt}(c:jZ x){k:Zb}(h:Þ k):∃q,(A7 x k).Α q/\eV q:=by
 have s:=h.ok.n;have l:=h.n3;obtain⟨n,j⟩:∃n:Nat,k.n=(n:Int):=⟨k.n.toNat,ŉ⟩;have i:(if 3<k.n then 3 else k.n)=(n:Int):=by rw[ā ŉ,j]
 have a:∀p:Ù,ω p->∃q,(EB x ⟨i64.wrap (Int.tmod x.kind 12),p,[]⟩).Α q/\eV q:=λp hp=>by
  by_cases e:i64.wrap (Int.tmod x.kind 12)=3
  .obtain⟨u,r⟩:∃u:Nat,x.o=(u:Int):=⟨x.o.toNat,by have:=c.o;omega⟩;have m:(xh x.o).Α (lU u):=by rw[r];exact TG (by have:=c.o;omega)
   exact⟨⟨_,p,lU u⟩,Cq.wp.yes e ⟨_,m,rfl⟩,⟨hp,.inl TO⟩⟩
  exact⟨_,Cq.wp.no e rfl,⟨hp,(eV.nil 0).o⟩⟩
 cases g:decide (i64.wrap (Int.tmod x.kind 12)=1\/i64.wrap (Int.tmod x.kind 12)=7\/i64.wrap (Int.tmod x.kind 12)=9)with
 |true=>
  obtain⟨q,f,h2⟩:=a _ (LJ c.p (n:=n) ŉ (d:=2) ĳ ĳ (k:=3) ĳ).1;exact⟨q,⟨true,by rw[<-g];exact Lz _,Cq.wp.yes rfl ⟨_,by rw[i];exact Ls c.p (n:=n) ŉ ĳ ĳ (k:=3) ĳ,f⟩⟩,h2⟩
 |false=>
  obtain⟨q,f,h2⟩:=a [] (ω.of ĳ);exact⟨q,⟨false,by rw[<-g];exact Lz _,Cq.wp.nr rfl f⟩,h2⟩
theorem Zvm{x:Zt}(c:jZ x):∃k,(A8 x).Α k/\Þ k:=by obtain⟨a,f⟩:=Zvy c.c;obtain⟨e,d⟩:=Zx6 a ŉ;refine⟨_,⟨_,ZuU c.c,_,Zu7 a,rfl⟩,d,?_⟩;rw[e];show ph _<=3;have g:(iV x.c).vars.length=jl x.c:=Fh x.c;have:=Bi x.c;unfold ph;split<;>omega
theorem Zys{x:Zt}(a:jZ x):∃k q l,rF x k q l:=by obtain⟨k,c,k2⟩:=Zvm a;obtain⟨q,g,h⟩:=Zx2 a k2;obtain⟨l,d,e,f⟩:=ZuS a.l;exact⟨k,q,l,c,g,d,k2,h,e,f⟩
def kW(B:Zd)(x:Zt)(k:Zb)(q:Zc)(l:Ŀ Zj):Zd×Int×Int:=
 if Int.tmod x.fX 2=0 then(if(gG B k q).2.2=0 then gG B k q else(B,0,(gG B k q).2.2))
 else(if(hQ B x.id l x.Μ).2=0 then((hQ B x.id l x.Μ).1,0,0)else(B,0,(hQ B x.id l x.Μ).2))
theorem ZxY{B:Zd}{k:Zb}{q:Zc}(h:¬(gG B k q).2.2=0):(gG B k q).2.1=0:=by
 unfold gG at h⊢;split at h
 .exact absurd rfl h
 rw[ā ‹_›]
theorem Zwo{B:Zd}(h:ç B)(g:B.t.length<=90){x:Zt}{k:Zb}{q:Zc}{l:Ŀ Zj}(a:rF x k q l):(KG B x).Α (kW B x k q l)/\(Lx B x).Α (kW B x k q l):=by
 unfold kW;by_cases d:Int.tmod x.fX 2=0
 .rw[ą d];have a1:=A0 h ŉ a.k a.q;have a2:=ZxV h ŉ a.k a.q;by_cases c:(gG B k q).2.2=0
  .rw[ą c];refine⟨Cq.wp.yes d ⟨_,a.core,_,a.asks,_,a1,Cq.wp.no (λe=>e c) rfl⟩,Cq.wp.yes d ⟨_,a.core,_,a.asks,_,a2,Cq.wp.no (λe=>e c) ?_⟩⟩;show _=_;have:gG B k q=((gG B k q).1,(gG B k q).2.1,0):=by rw[<-c]
   exact this.symm
  rw[ā c];refine⟨Cq.wp.yes d ⟨_,a.core,_,a.asks,_,a1,Cq.wp.yes c ?_⟩,Cq.wp.yes d ⟨_,a.core,_,a.asks,_,a2,Cq.wp.yes c rfl⟩⟩;show _=_;rw[ZxY c]
 rw[ā d];have f:=a.len;have a1:=AH h ŉ x.id ŉ a.l x.Μ;have a2:=Zu8 h ŉ x.id ŉ a.l x.Μ;by_cases c:(hQ B x.id l x.Μ).2=0
 .rw[ą c];refine⟨Cq.wp.no d ⟨_,a.nd,_,a1,Cq.wp.no (λe=>e c) ?_⟩,Cq.wp.no d ⟨_,a.nd,_,a2,Cq.wp.no (λe=>e c) rfl⟩⟩;show _=_;rw[c]
 rw[ā c];exact⟨Cq.wp.no d ⟨_,a.nd,_,a1,Cq.wp.yes c rfl⟩,Cq.wp.no d ⟨_,a.nd,_,a2,Cq.wp.yes c rfl⟩⟩
theorem KW{B:Zd}(h:ç B){k:Zb}{q:Zc}(d:Þ k)(e:eV q)(a:(gG B k q).2.2=0):Grown B (gG B k q).1 4:=by
 unfold gG at a⊢;split at a
 .rw[ą ‹_›];have c:=Mk (eP q (â k).2).kind;exact(FA (n:=5) ŉ h (iM.of d e ‹_›)).1.up c
 cases a
theorem Zwn{B:Zd}(h:ç B){x:Zt}{k:Zb}{q:Zc}{l:Ŀ Zj}(c:rF x k q l):ç (kW B x k q l).1/\B.t.length<=(kW B x k q l).1.t.length/\(kW B x k q l).1.t.length<=B.t.length+4:=by
 unfold kW;split
 .split
  .have a:=KW h c.k c.q ‹_›;exact⟨a.ok,a.pre.length_le,a.len⟩
  exact⟨h,Ċ _,abo _ _⟩
 split
 .obtain⟨d,e⟩:=Zw9 h ‹_›;exact⟨d,aaV e.symm,by show(hQ B x.id l x.Μ).1.t.length<=_;omega⟩
 exact⟨h,Ċ _,abo _ _⟩
def hM:Zd:=⟨[],1⟩
theorem yN:ç hM where
 can t a:=absurd a ĝ
 ids i hi:=absurd hi (ı _)
 next:=rfl
 Ü:=List.Pairwise.nil
 lO i hi:=absurd hi (ı _)
 num t a:=absurd a ĝ
end Go.EL

namespace Go.Proofs.YtepbagkffgddlaaGreat
open Go.IntKind (i8 i16 i32 i64 u8 u16 u32 u64)
open Go.Proofs.Tryz
open Go Go.EL Go.RowKit Go.Proofs
def sE(x:Zu):Prop:=(∀y∈x.t,∀i,(Lit.int .i8 (y i)).wf=true)
def xY(x:ZA):Prop:=((Lit.int .u8 x.n).wf=true)/\(∀y∈x.l,sE y)/\(∀y∈x.iR,(Lit.int .u8 y).wf=true)
def sD(x:ZM):Prop:=((Lit.int .u8 x.kind).wf=true)/\(∀y∈x.l,sE y)/\(∀y∈x.v,(Lit.int .i8 y).wf=true)
def CQ(x:Zt):Prop:=((Lit.int .u8 x.fX).wf=true)/\(xY x.c)/\((Lit.int .u8 x.kind).wf=true)/\(sE x.p)/\((Lit.int .u8 x.o).wf=true)/\(∀y∈x.l,sD y)/\((Lit.int .i64 x.id).wf=true)/\((Lit.int .i64 x.Μ).wf=true)
theorem np(W:World):È prog W 37 ZP (sE):=by have h:=È.struct (W:=W) underlying37 İ (eN.last rfl İ (È.sl underlying35 İ ĳ (È.vec underlying197 underlying196 İ İ))) (λ(x:Zu)=>x.t) (λy=>⟨y⟩) (λ_=>rfl);exact h
theorem uH(W:World):È prog W 34 Kc (xY):=by have h:=È.struct (W:=W) underlying34 İ (eN.cons rfl İ (È.int underlying5) (eN.cons rfl İ (È.sl underlying31 İ ĳ (np W)) (eN.last rfl İ (È.sl underlying32 İ ĳ (È.int underlying5))))) (λ(x:ZA)=>(x.n,x.l,x.iR)) (λy=>⟨y.1,y.2.1,y.2.2⟩) (λ_=>rfl);exact h
theorem sF(W:World):È prog W 160 tP (sD):=by have h:=È.struct (W:=W) underlying160 İ (eN.cons rfl İ (È.int underlying5) (eN.cons rfl İ (È.sl underlying31 İ ĳ (np W)) (eN.last rfl İ (È.sl underlying158 İ ĳ (È.int underlying196))))) (λ(x:ZM)=>(x.kind,x.l,x.v)) (λy=>⟨y.1,y.2.1,y.2.2⟩) (λ_=>rfl);exact h
theorem uI(W:World):È prog W 40 yz (CQ):=by have h:=È.struct (W:=W) underlying40 İ (eN.cons rfl İ (È.int underlying5) (eN.cons rfl İ (uH W) (eN.cons rfl İ (È.int underlying5) (eN.cons rfl İ (np W) (eN.cons rfl İ (È.int underlying5) (eN.cons rfl İ (È.sl underlying38 İ ĳ (sF W)) (eN.cons rfl İ (È.int underlying3) (eN.last rfl İ (È.int underlying3))))))))) (λ(x:Zt)=>(x.fX,x.c,x.kind,x.p,x.o,x.l,x.id,x.Μ)) (λy=>⟨y.1,y.2.1,y.2.2.1,y.2.2.2.1,y.2.2.2.2.1,y.2.2.2.2.2.1,y.2.2.2.2.2.2.1,y.2.2.2.2.2.2.2⟩) (λ_=>rfl);exact h
theorem Mp{x:Zu}(h:sE x):iZ x:=λv a j=>wf_i8 (h v a j)
theorem ZyF{x:ZA}(h:xY x):ij x:=⟨wf_u8 h.1,λy c=>Mp (h.2.1 y c),λg a=>wf_u8 (h.2.2 g a)⟩
theorem ZyE{x:ZM}(h:sD x):jG x:=⟨wf_u8 h.1,λy c=>Mp (h.2.1 y c),λg a=>wf_i8 (h.2.2 g a)⟩
theorem Zzq{x:Zt}(h:CQ x):jZ x:=⟨wf_u8 h.1,ZyF h.2.1,wf_u8 h.2.2.1,Mp h.2.2.2.1,wf_u8 h.2.2.2.2.1,λy a=>ZyE (h.2.2.2.2.2.1 y a)⟩
set_option maxRecDepth 100000 in
theorem ZvE{W:World}{base:Nat}{v:Value}{H:Type}{enc:TypeId×Value->H}{b:Nat}{d:DataW H}{ps:Ŀ MemPlace}(a:Value.okWide prog W .any base 22 v)(h:DataW.Trod enc prog W b (λ_=>true) true 22 v d ps):∃p cap l,v=.slice p (List.length l) cap/\Ζ yz (kd W) (.slice p l.length cap) l/\∀y∈l,jZ y:=by obtain⟨p,cap,l,c,h2,h3⟩:=ZtQ underlying22 İ ĳ (uI W) a h;exact⟨p,cap,l,c,h2,λy e=>Zzq (h3 y e)⟩
end Go.Proofs.YtepbagkffgddlaaGreat

