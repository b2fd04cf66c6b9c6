/- The law TaskLearns holds for every input: a part of its proof (fW the code does, plain models, and fW they return). No condition. -/
import Derived.Test.YtepbagkffgddlaaGreatXL10d
import Derived.Test.YtepbagkffgddlaaGreatXL10c
import Derived.Test.YtepbagkffgddlaaGreatXL10b
set_option linter.unusedVariables false
set_option linter.unusedSimpArgs false
namespace Go.EL
open Go.IntKind (i8 i16 i32 i64 u8 u16 u32 u64)
open Go Go.RowKit
theorem Uh:∀(f:Nat) (n:Int),(iM f n).length<=f+1
 |0,_=>by simp[iM]
 |f+1,n=>by
  unfold iM;split
  .have:=Uh f (u64.wrap (Int.tdiv n 128));rw[ě];omega
  simp
theorem rm(n:Int):(fA n).length<=11:=Uh 10 n
theorem qF{n:Int}(a:0<=n):0<=Int.tdiv n 128/\Int.tdiv n 128=n / 128:=⟨Int.tdiv_nonneg a ĳ,abg a⟩
theorem TT:∀(f:Nat) (b:Ŀ Int) (n:Int),0<=n->n<128 ^ (f+1)->n<18446744073709551616->b.length+f+1<=1000000->(Fl (b,n)).wp λo=>(Fm o.1 o.2).Α (b++iM f n)
 |0,b,n,c,d,h2,g=>by refine Cq.Zt (Cq.wp.no ŉ ?_);show(Fm b n).Α _;refine⟨?_,rfl⟩;rw[Ā,ė];simp only[small];omega
 |f+1,b,n,c,d,h2,g=>by
  by_cases h:127<n
  .refine Cq.Zt (Cq.wp.yes h ⟨?_,?_⟩)
   .rw[Ā,ė];simp only[small];omega
   obtain⟨d0,d1⟩:=qF c;have a:n / 128<128 ^ (f+1):=Int.ediv_lt_of_lt_mul ĳ (by rw[<-Int.pow_succ];exact d);have i:u64.wrap (Int.tdiv n 128)=n / 128:=by rw[d1];exact qO ⟨ŉ,ŉ⟩
   show(Fl _).wp _;have j:=TT f (b++[u8.wrap (u8.wrap (Int.tmod n 128)+128)]) (u64.wrap (Int.tdiv n 128)) ŉ (by rw[i];exact a) ŉ (by rw[Ā,ė];omega);refine(Fl _).mono (λo e=>?_) j;rw[Đ]at e;unfold iM;rw[ă (show 128<=n by omega)];exact e
  refine Cq.Zt (Cq.wp.no h ?_);show(Fm b n).Α _;unfold iM;rw[ā (show ¬128<=n by omega)];refine⟨?_,rfl⟩;rw[Ā,ė];simp only[small];omega
theorem Om:(128:Int) ^ (10+1)=151115727451828646838272:=ĳ
theorem vy{b:Ŀ Int}{n:Int}(h:0<=n/\n<18446744073709551616)(c:b.length<=900000):(uq b n).Α (b++fA n):=by have a:=Om;exact TT 10 b n h.1 ŉ h.2 ŉ
theorem xI{n:Nat}(h:n<=1000000):u64.wrap (n:Int)=(n:Int):=qO ⟨ŉ,ŉ⟩
theorem Li(d:Int):(fI d).length=4:=rfl
theorem uf{α:Type}{f:α->Ŀ Int}{K:Nat}:∀{l:Ŀ α},(∀x∈l,(f x).length<=K)->(l.flatMap f).length<=K*l.length
 |[],_=>ĉ _
 |x::l,h=>by have c:=h x ß;have h2:=uf (l:=l) (λy a=>h y (by simp[a]));rw[Ś,Ā,ě,Nat.mul_succ];omega
theorem FC{α:Type}(f:α->Ŀ Int)(l:Ŀ α){k:Nat}(a:k<l.length):(l.take (k+1)).flatMap f=(l.take k).flatMap f++f l[k]:=by rw[Ĉ a,dw];simp
theorem LS{a:Zg}(h:a.χ.length<=1):(lu a).length<=15:=by unfold lu;rw[Ā];have c:=rm (if a.neg=true then u64.wrap (u64.wrap (2*u64.wrap (a.χ.length:Int))+1)else u64.wrap (2*u64.wrap (a.χ.length:Int)));have h2:=uf (K:=4) (l:=a.χ) (f:=fI) (λx _=>aa0 (Li x));omega
theorem R0{b:Ŀ Int}{a:Zg}(h:a.χ.length<=1)(m:b.length<=800000):(A8 b a).Α (b++lu a):=by
 have key:∀s:Int,0<=s->s<=1->(EI b a s).Α (b++(fA (u64.wrap (u64.wrap (u64.wrap (a.χ.length:Int)*2)+s))++a.χ.flatMap fI)):=λs p q=>by
  have e:=xI (n:=a.χ.length) ŉ;have c:u64.wrap ((a.χ.length:Int)*2)=(a.χ.length:Int)*2:=qO ⟨ŉ,ŉ⟩;have j:u64.wrap ((a.χ.length:Int)*2+s)=(a.χ.length:Int)*2+s:=qO ⟨ŉ,ŉ⟩;refine⟨_,vy (by rw[e,c,j];omega) ŉ,?_⟩;have d:=rm (u64.wrap (u64.wrap (u64.wrap (a.χ.length:Int)*2)+s));generalize fA (u64.wrap (u64.wrap (u64.wrap (a.χ.length:Int)*2)+s))=N at *;refine Cq.Zn a.χ.length (λk st=>st=(b++N++(a.χ.take k).flatMap fI,(k:Int))) (λk st i g=>?_) (λst g=>?_) (by show _=_;simp)
  .subst g;refine Cq.wp.yes ŉ ⟨_,Λ i,?_,?_⟩
   .have:=uf (K:=4) (l:=a.χ.take k) (f:=fI) (λx _=>aa0 (Li x));rw[č]at this;simp only[Ā,ě,Ļ,small];omega
   show _=_;rw[ψ ŉ,FC fI a.χ i,<-Đ];rfl
  subst g;refine Cq.wp.no ŉ ?_;rw[Ę (ĉ _)];show _=_;rw[Đ]
 unfold A8;have e:=xI (n:=a.χ.length) ŉ;have c:u64.wrap ((a.χ.length:Int)*2)=(a.χ.length:Int)*2:=qO ⟨ŉ,ŉ⟩;by_cases d:a.neg=true
 .refine Cq.wp.yes d ?_;have:=key 1 ĳ ĳ;unfold lu;rw[ă d,aaH 2];exact this
 refine Cq.wp.no d ?_;have:=key 0 ĳ ĳ;unfold lu;rw[ā d,aaH 2];rw[aaF,e,c,c]at this;rw[e,c];exact this
theorem ω.CU{p:Ö}(h:ω p){t:Za}(d:t∈p):t.c.num.χ.length<=1/\t.c.den.χ.length<=1:=by obtain⟨a,c⟩:=h.parts d;rw[a,c];refine⟨?_,ĉ 1⟩;show(uQ _).length<=1;unfold uQ;split<;>simp
theorem Uu{p:Ö}(h:ω p){t:Za}(c:t∈p):(mK t.c).length<=30:=by obtain⟨a,h2⟩:=h.CU c;have:=LS a;have:=LS h2;unfold mK;rw[Ā];omega
theorem LW(m:M):∀k,(iL m k).length<=11*k
 |0=>ĉ _
 |k+1=>by have:=LW m k;have:=rm (u64.wrap (Ζ m (k:Int)));unfold iL;rw[Ā];omega
theorem Tg{p:Ö}(h:ω p){t:Za}(a:t∈p):(ga t).length<=118:=by have:=Uu h a;have:=LW t.m 8;unfold ga;rw[Ā];omega
theorem FG{p:Ö}(h:ω p):(fH p).length<=11811:=by have c:=rm (u64.wrap (p.length:Int));have h2:=uf (f:=ga) (K:=118) (λt a=>Tg h a);have h3:=h.len;have:118*p.length<=11800:=ŉ;unfold fH;rw[Ā];omega
theorem AN{l:Ŀ Ö}(h:∀p∈l,ω p)(c:l.length<=12):(fV l).length<=150000:=by have a:=rm (u64.wrap (l.length:Int));have h2:=uf (f:=fH) (K:=11811) (λp hp=>FG (h p hp));have:11811*l.length<=141732:=ŉ;unfold fV;rw[Ā];omega
theorem SK{b:Ŀ Int}{p:Ö}(h:ω p)(A:b.length<=700000):(F2 b p).Α (b++fH p):=by
 have C:=h.len;have m:=xI (n:=p.length) ŉ;refine⟨_,vy (by rw[m];omega) ŉ,?_⟩;unfold fH;have E:=rm (u64.wrap (p.length:Int));generalize fA (u64.wrap (p.length:Int))=N at *;refine Cq.Zn p.length (λk st=>st=(b++N++(p.take k).flatMap ga,(k:Int))) (λk st d a=>?_) (λst a=>?_) (by show _=_;simp)
 .subst a;have e:=Ă d;obtain⟨i,y⟩:=h.CU e;have r:=uf (K:=118) (l:=p.take k) (f:=ga) (λx v=>Tg h (Ŝ v));rw[č]at r;have s:118*min k p.length<=11800:=ŉ;have hr:=Uu h e;refine Cq.wp.yes ŉ ⟨_,Λ d,b++N++(p.take k).flatMap ga++mK p[k].c,⟨_,R0 i (by simp only[Ā];omega),_,R0 y (by
   have:=LS i;simp only[Ā];omega),?_⟩,?_⟩
  .show _=_;unfold mK;simp only[Đ]
  generalize g:b++N++(p.take k).flatMap ga++mK p[k].c=B;have q:B.length<=750000:=by rw[<-g];simp only[Ā];omega
  refine Cq.Zn 8 (λj st=>st=(B++iL p[k].m j,(j:Int))) (λj st c a=>?_) (λst a=>?_) (by show _=_;simp[iL])
  .subst a;have D:=(h.mono _ e) ⟨j,c⟩;have t:=LW p[k].m j;have u:u64.wrap (p[k].m ⟨j,c⟩)=p[k].m ⟨j,c⟩:=qO ⟨ŉ,ŉ⟩;refine Cq.wp.yes ŉ ⟨_,Λ d,⟨ŉ,ŉ⟩,B++iL p[k].m j++fA (u64.wrap (Ζ p[k].m (j:Int))),vy (by rw[Ó c,u];omega) (by rw[Ā];omega),?_⟩;show _=_;rw[ψ ŉ,Đ];rfl
  subst a;refine Cq.wp.no ĳ ?_;show _=_;rw[ψ ŉ,FC ga p d,<-g];unfold ga;simp only[Đ]
 subst a;refine Cq.wp.no ŉ ?_;rw[Ę (ĉ _)];show _=_;rw[Đ]
theorem RY{b:Ŀ Int}{l:Ŀ Ö}(h:∀p∈l,ω p)(m:l.length<=12)(j:b.length<=500000):(FO b l).Α (b++fV l):=by
 have d:=xI (n:=l.length) ŉ;refine⟨_,vy (by rw[d];omega) ŉ,?_⟩;unfold fV;have q:=rm (u64.wrap (l.length:Int));generalize fA (u64.wrap (l.length:Int))=N at *;refine Cq.Zn l.length (λk st=>st=(b++N++(l.take k).flatMap fH,(k:Int))) (λk st a c=>?_) (λst c=>?_) (by show _=_;simp)
 .subst c;have e:=uf (K:=11811) (l:=l.take k) (f:=fH) (λx i=>FG (h x (Ŝ i)));rw[č]at e;have g:11811*min k l.length<=141732:=ŉ;refine Cq.wp.yes ŉ ⟨_,Λ a,_,SK (h _ (Ă a)) (by simp only[Ā];omega),?_⟩;show _=_;rw[ψ ŉ,FC fH l a];simp only[Đ]
 subst c;refine Cq.wp.no ŉ ?_;rw[Ę (ĉ _)];show _=_;rw[Đ]
structure iU (n:Int) (least:Int) (l:Ŀ Ö):Prop where
 len:l.length<=12
 ie:∀p∈l,ω p/\Ï p n=true/\p≠[]/\Υ p=p/\least<=gl p
 st:hV l
structure ç (k:Zc):Prop where
 n:1<=k.n/\k.n<=4
 eqs:iU k.n 0 k.eqs
 ε:iU k.n 1 k.ε
theorem Gg(n:Int):(ly n).length<=11:=rm _
theorem SI{k:Zc}(g:0<=k.n/\k.n<=1000)(c:∀p∈k.eqs,ω p)(hi:∀p∈k.ε,ω p)(le:k.eqs.length<=12)(e:k.ε.length<=12):(vw [] k).Α (hC k):=by
 have d:u64.wrap k.n=k.n:=qO ⟨ŉ,ŉ⟩;have a:u64.wrap (k.n*2)=k.n*2:=qO ⟨ŉ,ŉ⟩;have f:=Gg k.n;have h2:=AN c le;refine⟨ly k.n,Cq.wp.no ŉ ⟨_,vy (b:=[]) (by rw[d,a];omega) ß,?_⟩,_,RY c le ŉ,_,RY hi e (by rw[Ā];omega),?_⟩
 .show _=_;unfold ly;rw[aaH 2];rfl
 rfl
theorem ç.Dc{k:Zc}(h:ç k):(vw [] k).Α (hC k):=SI ⟨by have:=h.n;omega,by have:=h.n;omega⟩ (λp hp=>(h.eqs.ie p hp).1) (λp hp=>(h.ε.ie p hp).1) h.eqs.len h.ε.len
theorem ZwE{k:Zc}(h:ç k):(hC k).length<=1000000:=by have a:=Gg k.n;have h2:=AN (λp hp=>(h.eqs.ie p hp).1) h.eqs.len;have h3:=AN (λp hp=>(h.ε.ie p hp).1) h.ε.len;unfold hC;simp only[Ā];omega
theorem FB{p:Ö}{n:Int}(h:Ï p n=true):(Int.fdiv (i64.wrap (ï p)) (2 ^ (min n.toNat i64.bits)))=0/\gl p<=12:=by
 unfold Ï at h;split at h
 .exact⟨‹_›,ĥ h⟩
 cases h
theorem Te{l:Ŀ Ö}(h:hV l){k:Nat}(a:k+1<l.length):ë l[k] l[k+1]<0:=ħ.1 h k (k+1) ŉ a ŉ
theorem Q4{k:Zc}(p:1<=k.n/\k.n<=4){least:Int}{l:Ŀ Ö}(h:iU k.n least l):(À ⟨k⟩ l least).Α true:=by
 have n:=h.len;refine Cq.wp.no ŉ ?_;refine Cq.Zn l.length (λj s=>s=(j:Int)) (λj s c d=>?_) (λs d=>?_) rfl
 .subst d;obtain⟨a,f,g,q4,q5⟩:=h.ie _ (Ă c);obtain⟨f1,f2⟩:=FB f;refine Cq.wp.yes ŉ ⟨_,Λ c,true,⟨true,D5 a,_,FX a.len,by show 0<=k.n;omega,Cq.wp.yes f1 ⟨_,yM a,Ą f2⟩⟩,_,yM a,Cq.wp.no ŉ ⟨_,Kr a g,true,?_,Cq.wp.no ĳ ?_⟩⟩
  .rw[q4];have:=E4 a.gv a.gv;rw[xx]at this;exact this
  by_cases e:(0:Int)<(j:Int)
  .obtain⟨i,rfl⟩:∃i,j=i+1:=⟨j-1,ŉ⟩;have hi:i64.wrap (((i+1:Nat):Int)-1)=(i:Int):=by rw[wrap64 ŉ];omega
   have m:=Te h.st c;refine Cq.wp.yes e ?_;rw[hi];refine⟨_,Λ ŉ,_,Tm (h.ie _ (Ă ŉ)).1.gv a.gv,Cq.wp.no ŉ ?_⟩;exact ψ ŉ
  exact Cq.wp.no e (ψ ŉ)
 subst d;exact Cq.wp.no ŉ rfl
theorem E6{k:Zc}(h:ç k):(vl k).Α true:=
 ⟨true,Cq.wp.yes h.n.1 (Cq.wp.yes h.n.2 ⟨true,Q4 h.n h.eqs,true,Q4 h.n h.ε,rfl⟩),rfl⟩
theorem Zrx{p:Ö}(h:ω p){n:Nat}(e:n<=4)(d:Ï p (n:Int)=true):(xh p (n:Int) 12).Α true:=by
 have g:=(pI (p:=p) (n:=n) ŉ).1 d;obtain⟨f1,f2⟩:=FB d;have c:u64.wrap (n:Int)=(n:Int):=by
  match n,e with
  |0,_=>rfl
  |1,_=>rfl
  |2,_=>rfl
  |3,_=>rfl
  |4,_=>rfl
 have i:=uj p;have f:=yU.2 g.1;rw[Ů]at f;have a:(ï p).toNat<2 ^ n:=by
  rcases x6.1 f with h|h
  .have:=aaf n;omega
  exact h
 refine⟨true,Av h,_,Au h.len,by rw[c];omega,Cq.wp.yes ?_ ⟨_,xa h,Ą f2⟩⟩;rw[c,wrap64 ŉ];match n,e with
 |0,_=>exact œ (show ï p<1 by simp at a;omega) ĳ
 |1,_=>exact œ (show ï p<2 by simp at a;omega) ĳ
 |2,_=>exact œ (show ï p<4 by simp at a;omega) ĳ
 |3,_=>exact œ (show ï p<8 by simp at a;omega) ĳ
 |4,_=>exact œ (show ï p<16 by simp at a;omega) ĳ
theorem Qx{n:Int}(f:1<=n/\n<=4){least:Int}{l:Ŀ Ö}(h:iU n least l):(Fp l n).Α true:=by
 have r:=h.len;obtain⟨m,rfl,t,g⟩:=vH f;refine Cq.wp.no ŉ ?_;refine Cq.Zn l.length (λj s=>s=(j:Int)) (λj s a d=>?_) (λs d=>?_) rfl
 .subst d;obtain⟨c,k,p,q4,q5⟩:=h.ie _ (Ă a);have hp:0<l[j].length:=Š.2 p;refine Cq.wp.yes ŉ ⟨_,Λ a,true,Zrx c g k,_,Λ a,Cq.wp.no ŉ ⟨_,Λ a,_,PN c,_,Λ a,true,?_,?_⟩⟩
  .rw[q4];have:=Ko c.gv c.gv;rw[xx]at this;exact this
  show(if(0:Int)<(j:Int)then _ else _:Cq _).wp _;by_cases e:(0:Int)<(j:Int)
  .obtain⟨i,rfl⟩:∃i,j=i+1:=⟨j-1,ŉ⟩;have hi:i64.wrap (((i+1:Nat):Int)-1)=(i:Int):=by rw[wrap64 ŉ];omega
   have q:=Te h.st a;refine Cq.wp.yes e ?_;rw[hi];refine⟨_,Λ ŉ,_,Λ a,_,SJ (h.ie _ (Ă ŉ)).1.gv c.gv,Cq.wp.no ŉ ?_⟩;exact ψ ŉ
  exact Cq.wp.no e (ψ ŉ)
 subst d;exact Cq.wp.no ŉ rfl
theorem Kz{k:Zc}(h:ç k):(A7 k).Α true:=by
 have f:=h.n;have e:=h.ε.len;refine Cq.wp.no ŉ (Cq.wp.no ŉ ⟨true,Qx h.n h.eqs,true,Qx h.n h.ε,Cq.wp.no ĳ ?_⟩);refine Cq.Zn k.ε.length (λj s=>s=(j:Int)) (λj s c a=>?_) (λs a=>?_) rfl
 .subst a;obtain⟨d,g,i,q4,q5⟩:=h.ε.ie _ (Ă c);refine Cq.wp.yes ŉ ⟨_,Λ c,_,xa d,Cq.wp.no ŉ ?_⟩;exact ψ ŉ
 subst a;exact Cq.wp.no ŉ rfl
def ø(k:Zc):Ĳ:=bytesOf (hC k)
theorem zo{k:Zc}(h:ç k):(vo k).Α (ø k):=⟨true,E6 h,⟨by have:=h.n;omega,ZwE h⟩,rfl⟩
theorem TS{k:Zc}(h:ç k):(Gr k).Α (ø k):=⟨true,Kz h,Cq.wp.no ĳ ⟨_,h.Dc,rfl⟩⟩
end Go.EL

namespace Go.EL
open Go.IntKind (i8 i16 i32 i64 u8 u16 u32 u64)
open Go Go.RowKit
structure gH (n:Nat) (π:M):Prop where
 perm:Ë π
 fix:∀i:Fin 8,n<=i.val->π i=(i.val:Int)
def jG(n:Nat)(π:M):Bool:=decide (∀i,0<=π i/\π i<8)&&decide (∀i j,π i=π j->i=j)&&decide (∀i:Fin 8,n<=i.val->π i=(i.val:Int))
theorem gH.of{n:Nat}{π:M}(h:jG n π=true):gH n π:=by unfold jG at h;simp only[Ċ,ę]at h;exact⟨⟨h.1.1,h.1.2⟩,h.2⟩
theorem ZxD:((Β 1).all (jG 1)&&(Β 2).all (jG 2)&&(Β 3).all (jG 3)&&(Β 4).all (jG 4))=true:=by decide +kernel
theorem oo{n:Nat}(h:1<=n/\n<=4){π:M}(hp:π∈Β n):gH n π:=by
 have:=ZxD;simp only[Ċ,Ć]at this;obtain⟨⟨⟨a,h2⟩,h3⟩,c⟩:=this;have d:n=1\/n=2\/n=3\/n=4:=ŉ;rcases d with rfl|rfl|rfl|rfl
 .exact .of (a π hp)
 .exact .of (h2 π hp)
 .exact .of (h3 π hp)
 exact .of (c π hp)
theorem Zwk{n:Nat}(h:1<=n/\n<=4):(K2 (n:Int)).Α (Β n):=by
 have a:n=1\/n=2\/n=3\/n=4:=ŉ;rcases a with rfl|rfl|rfl|rfl<;>exact Cq.Α.mn 60 (by decide +kernel)
theorem vv{n:Nat}:Β n=(λi:Fin 8=>(i.val:Int))::(Β n).tail:=rfl
theorem Sw{n:Nat}(d:n<=8){π:M}(h:gH n π){p:Ö}(hp:ω p)(f:Ï p (n:Int)=true):Ï (à π p) (n:Int)=true:=by
 obtain⟨e,h2⟩:=(pI d).1 f;refine(pI d).2 ⟨λt a i hi=>?_,λt a=>?_⟩
 .obtain⟨y,c,rfl⟩:=ğ.1 ((rn h.perm hp.ord).1.mem_iff.1 a);show ¬0<fB π y.m i;rw[ui h.perm y.m i i (h.fix i hi).symm];exact e y c i hi
 obtain⟨y,c,rfl⟩:=ğ.1 ((rn h.perm hp.ord).1.mem_iff.1 a);show fK (fB π y.m)<=12;rw[K9 h.perm];exact h2 y c
theorem ZxB{π:M}(h:Ë π){p:Ö}(hp:ω p):(à π p).length=p.length:=by rw[(rn h hp.ord).1.length_eq,ć]
theorem ZyU{π:M}(h:Ë π){p:Ö}(hp:ω p)(a:p≠[]):à π p≠[]:=λe=>by have:=ZxB h hp;rw[e]at this;exact a (aaa.1 this.symm)
theorem ZzR{p q:Ö}(hp:ω p)(e:ω q)(h:∀d,-1<=d->((∀t∈p,fK t.m<=d)↔∀t∈q,fK t.m<=d)):gl p=gl q:=by
 have low:∀r:Ö,-1<=gl r:=λr=>by
  have key:∀k,-1<=fL r k:=by
   intro k;induction k with
   |zero=>exact ŋ _
   |succ k a=>
    unfold fL;split
    .split<;>omega
    exact a
  exact key _
 have c:=(tF (low q)).2 ((h _ (low q)).2 ((tF (low q)).1 (ŋ _)));have h2:=(tF (low p)).2 ((h _ (low p)).1 ((tF (low p)).1 (ŋ _)));omega
theorem ZxA{π:M}(h:Ë π){p:Ö}(hp:ω p):gl (à π p)=gl p:=by
 refine ZzR (oJ h hp) hp (λd _=>⟨λa t c=>?_,λa t c=>?_⟩)
 .have:=a (jn π t) ((rn h hp.ord).1.mem_iff.2 (ğ.2 ⟨t,c,rfl⟩));have e:fK (jn π t).m=fK t.m:=K9 h t.m;omega
 obtain⟨y,f,rfl⟩:=ğ.1 ((rn h hp.ord).1.mem_iff.1 c);have:=a y f;have e:fK (jn π y).m=fK y.m:=K9 h y.m;omega
theorem ZAw{n:Nat}(h:n<=4):Ï jd (n:Int)=true:=(pI ŉ).2 ⟨λt a i _=>by rw[jd,Ĕ]at a;subst a;exact Int.lt_irrefl 0,λt a=>by rw[jd,Ĕ]at a;subst a;decide⟩
theorem ZAv:gl jd=0:=ĳ
theorem Tr{l:Ŀ Ö}{plain:Bool}{q:Ö}(h:q∈kept l plain):∃p∈l,q=Υ p/\p≠[]/\(plain=true->gl p≠0):=by
 obtain⟨a,h2⟩:=ō.1 h;obtain⟨p,hp,rfl⟩:=ğ.1 a;unfold hJ at h2;simp only[Ċ,ő,aaI]at h2;refine⟨p,hp,rfl,λe=>?_,λe=>?_⟩
 .rw[e]at h2;cases h2.1
 rcases h2.2 with h2|h2
 .rw[e]at h2;cases h2
 rw[xE]at h2;exact aa3 h2
theorem ZAl{l:Ŀ Ö}{plain:Bool}{p:Ö}(hp:p∈l)(c:p≠[])(d:plain=true->gl p≠0):Υ p∈kept l plain:=by
 refine ō.2 ⟨ğ.2 ⟨p,hp,rfl⟩,?_⟩;have a:(Υ p).isEmpty=false:=by simpa using λe=>c (Bn.1 e)
 unfold hJ;rw[a,xE];cases plain with
 |false=>rfl
 |true=>rw[Č (d rfl)];rfl
theorem US{n:Nat}(e:n<=4){least:Int}{l:Ŀ Ö}(a:(er l).length<=12)(h:∀p∈l,ω p/\Ï p (n:Int)=true/\p≠[]/\Υ p=p/\least<=gl p):iU (n:Int) least (er l):=by obtain⟨c,d⟩:=F7 (l:=l) (λp hp=>(h p hp).1.gv);exact⟨a,λp hp=>h p ((d p).1 hp),c⟩
theorem Ve{n:Nat}(f:1<=n/\n<=4){eqs ε:Ŀ Ö}(g:∀p∈eqs,ω p/\Ï p (n:Int)=true)(hi:∀p∈ε,ω p/\Ï p (n:Int)=true)(j:(er (hZ eqs ε)).length<=12)(k:(er (kept ε true)).length<=12):
  ç ⟨(n:Int),er (hZ eqs ε),er (kept ε true)⟩ where
 n:=by show 1<=(n:Int)/\(n:Int)<=4;omega
 eqs:=US f.2 j λp hp=>by
  rcases Ĩ.1 hp with h|h
  .obtain⟨q,d,rfl,c,_⟩:=Tr h;have a:=(g q d).1;exact⟨vD a,by rw[Us];exact(g q d).2,λe=>c (Bn.1 e),S7 a,by rw[xE];exact KN a c⟩
  rw[L4 p h];exact⟨Bx,ZAw f.2,ĳ,L3,by rw[ZAv];decide⟩
 ε:=US f.2 k λp hp=>by obtain⟨q,d,rfl,c,i⟩:=Tr hp;have a:=(hi q d).1;have:=KN a c;have:=i rfl;exact⟨vD a,by rw[Us];exact(hi q d).2,λe=>c (Bn.1 e),S7 a,by rw[xE];omega⟩
def ý(k:Zc)(π:M):Zc:=(iw k.n (k.eqs.map (à π)) (k.ε.map (à π))).1
theorem Lp{l:Ŀ Ö}(h:∀p∈l,p≠[]):gN l=[]:=by unfold gN;rw[List.filter_eq_nil_iff.2 λp hp=>by simpa using h p hp];rfl
structure Ao (k:Zc) (π:M):Prop where
 norm:iw k.n (k.eqs.map (à π)) (k.ε.map (à π))=(ý k π,0)
 eq:ý k π=⟨k.n,er (hZ (k.eqs.map (à π)) (k.ε.map (à π))),er (kept (k.ε.map (à π)) true)⟩
 core:ç (ý k π)
theorem GK{l:Ŀ Ö}{n:Nat}{least:Int}(g:n<=4)(h:iU (n:Int) least l){π:M}(a:gH n π):∀p∈l.map (à π),ω p/\Ï p (n:Int)=true/\p≠[]/\least<=gl p:=λp hp=>by obtain⟨q,d,rfl⟩:=ğ.1 hp;obtain⟨c,e,f,q4,q5⟩:=h.ie q d;exact⟨oJ a.perm c,Sw ŉ a c e,ZyU a.perm c f,by rw[ZxA a.perm c];exact q5⟩
theorem lX{k:Zc}(h:ç k){π:M}(a:gH k.n.toNat π):Ao k π:=by
 obtain⟨n,eqs,ε⟩:=k;obtain⟨m,rfl,t,f⟩:=vH h.n;dsimp only at a⊢;rw[Ē]at a;have e:=GK f h.eqs a;have hi:=GK f h.ε a;have r:(er (hZ (eqs.map (à π)) (ε.map (à π)))).length<=12:=by have g:=GA (hZ (eqs.map (à π)) (ε.map (à π)));have i:=vz (eqs.map (à π)) false;have j:=h.eqs.len;unfold hZ at g;rw[Lp (λp hp=>(hi p hp).2.2.1),Ě]at g;unfold hZ;rw[Lp (λp hp=>(hi p hp).2.2.1),Ě];rw[ć]at i;dsimp only at j;omega
 have s:(er (kept (ε.map (à π)) true)).length<=12:=by have g:=GA (kept (ε.map (à π)) true);have i:=vz (ε.map (à π)) true;have j:=h.ε.len;rw[ć]at i;dsimp only at j;omega
 have q:=Ve ⟨t,f⟩ (λp hp=>⟨(e p hp).1,(e p hp).2.1⟩) (λp hp=>⟨(hi p hp).1,(hi p hp).2.1⟩) r s;have c:(eqs.map (à π)++ε.map (à π)).all (λp=>Ï p (m:Int))=true:=Ć.2 λp hp=>(Ĩ.1 hp).elim (λh=>(e p h).2.1) (λh=>(hi p h).2.1);have l:iw (m:Int) (eqs.map (à π)) (ε.map (à π))=(⟨(m:Int),er (hZ (eqs.map (à π)) (ε.map (à π))),er (kept (ε.map (à π)) true)⟩,0):=by unfold iw;rw[ă ⟨ŉ,ŉ⟩,ă c,ā ŉ,ā ŉ]
 have d:ý ⟨(m:Int),eqs,ε⟩ π=⟨(m:Int),er (hZ (eqs.map (à π)) (ε.map (à π))),er (kept (ε.map (à π)) true)⟩:=by unfold ý;dsimp only;rw[l]
 exact⟨by rw[l,d],d,by rw[d];exact q⟩
theorem QN{l:Ŀ Ö}(i:l.length<=100)(h:∀p∈l,ω p){π:M}(g:Ë π):(AB l π).Α (l.map (à π)):=by
 refine⟨⟨ŉ,ŉ⟩,?_⟩;refine Cq.Zn l.length (λk s=>s=((l.take k).map (à π)++List.replicate (l.length-k) [],(k:Int))) (λk s c f=>?_) (λs f=>?_) (by show _=_;simp)
 .subst f;have a:((l.take k).map (à π)++List.replicate (l.length-k) ([]:Ö)).length=l.length:=ab0;refine Cq.wp.yes ŉ ⟨_,Λ c,_,Rf g (h _ (Ă c)),_,Λ (by rw[a];exact c),?_⟩;show _=_;rw[ψ ŉ,Ē,Ĉ c,Ī,List.map_singleton];congr 1;rw[List.set_append,ā (by rw[ć,č];omega)];have e:l.length-k=(l.length-(k+1))+1:=ŉ;have d:k-((l.take k).map (à π)).length=0:=ab0;rw[d,e,aam,abb,Đ];rfl
 subst f;refine Cq.wp.no ŉ ?_;show _=_;rw[Ę (ĉ _)];simp
theorem Qh{k:Zc}(h:ç k){π:M}(a:gH k.n.toNat π):(EJ k π).Α (ý k π):=by
 have f:=h.eqs.len;have g:=h.ε.len;refine Cq.Zn k.eqs.length (λj s=>s=((k.eqs.take j).map (à π),(j:Int))) (λj s c d=>?_) (λs d=>?_) rfl
 .subst d;refine Cq.wp.yes ŉ ⟨_,Λ c,_,Jv a.perm (h.eqs.ie _ (Ă c)).1,?_,?_⟩
  .simp only[Ā,ć,č,ė,small];omega
  show _=_;rw[ψ ŉ,Ĉ c,Ī];rfl
 subst d;refine Cq.wp.no ŉ ?_;rw[Ę (ĉ _)];show(Pp k π (k.eqs.map (à π))).Α _;refine Cq.Zn k.ε.length (λj s=>s=((k.ε.take j).map (à π),(j:Int))) (λj s c d=>?_) (λs d=>?_) rfl
 .subst d;refine Cq.wp.yes ŉ ⟨_,Λ c,_,Jv a.perm (h.ε.ie _ (Ă c)).1,?_,?_⟩
  .simp only[Ā,ć,č,ė,small];omega
  show _=_;rw[ψ ŉ,Ĉ c,Ī];rfl
 subst d;refine Cq.wp.no ŉ ?_;rw[Ę (ĉ _)];show(Po k (k.eqs.map (à π)) (k.ε.map (à π))).Α _;refine⟨_,Rw (by rw[ć];omega) (by rw[ć];omega) (λp hp=>?_) (λp hp=>?_),rfl⟩
 .obtain⟨q,e,rfl⟩:=ğ.1 hp;exact oJ a.perm (h.eqs.ie q e).1
 obtain⟨q,e,rfl⟩:=ğ.1 hp;exact oJ a.perm (h.ε.ie q e).1
def fq(k:Zc):Ŀ M->Zc×M->Zc×M
 |[],s=>s
 |π::l,s=>fq k l (if Op.bytesLess (ø (ý k π)).toList (ø s.1).toList=true then(ý k π,π)else s)
def â(k:Zc):Zc×M:=fq k (Β k.n.toNat).tail (ý k (λi=>(i.val:Int)),λi=>(i.val:Int))
theorem SS(k:Zc):∀(l:Ŀ M) (s:Zc×M) (π:M),fq k (l++[π]) s=(if Op.bytesLess (ø (ý k π)).toList (ø (fq k l s).1).toList=true then(ý k π,π)else fq k l s)
 |[],_,_=>rfl
 |x::l,s,π=>SS k l _ π
theorem Mc{k:Zc}(h:ç k):∀{l:Ŀ M}{s:Zc×M},(∀π∈l,gH k.n.toNat π)->ç s.1->ç (fq k l s).1
 |[],_,_,a=>a
 |π::l,s,c,a=>by
  unfold fq;refine Mc h (λx d=>c x (by simp[d])) ?_;split
  .exact (lX h (c π ß)).core
  exact a
theorem RH(l:Ŀ Int):(bytesOf l).size=l.length:=by
 have key:∀(l:Ŀ Int) (b:Ĳ),(l.foldl (λr n=>r.push (UInt8.ofNat n.toNat)) b).size=b.size+l.length:=by
  intro l;induction l with
  |nil=>intro b;rfl
  |cons x l a=>intro b;rw[List.foldl_cons,a,ByteArray.size_push,ě];omega
 have:=key l ByteArray.empty;unfold bytesOf;rw[this];simp
theorem ZBg(k:Zc):ø k≠ByteArray.empty:=λe=>by
 have a:=RH (hC k);have h2:(ø k).size=0:=by rw[e];rfl
 unfold ø at h2;rw[a]at h2;have:1<=(ly k.n).length:=by unfold ly fA iM;split<;>simp
 unfold hC at h2;simp only[Ā]at h2;omega
theorem RI{k:Zc}(h:ç k){π:M}(a:gH k.n.toNat π){s:Zc×M×Ĳ}:
  (sh k π s).Α (if s.2.2=ByteArray.empty then(ý k π,π,ø (ý k π))else if Op.bytesLess (ø (ý k π)).toList s.2.2.toList=true then(ý k π,π,ø (ý k π))else s):=by
 have e:=h.eqs.len
 have f:=h.ε.len
 have hp:=lX h a
 refine⟨_,QN ŉ (λp hp=>(h.eqs.ie p hp).1) a.perm,_,QN ŉ (λp hp=>(h.ε.ie p hp).1) a.perm,(ý k π,0),?_,Cq.wp.no (λh=>h rfl) ⟨_,zo hp.core,?_⟩⟩
 .rw[<-hp.norm]
  refine ZtL (by rw[ć];omega) (by rw[ć];omega) (λp hp=>?_) (λp hp=>?_)
  .obtain⟨q,d,rfl⟩:=ğ.1 hp
   exact oJ a.perm (h.eqs.ie q d).1
  obtain⟨q,d,rfl⟩:=ğ.1 hp
  exact oJ a.perm (h.ε.ie q d).1
 by_cases c:s.2.2=ByteArray.empty
 .rw[ă c];exact Cq.wp.yes c rfl
 rw[ā c]
 refine Cq.wp.no c ?_
 by_cases h2:Op.bytesLess (ø (ý k π)).toList s.2.2.toList=true
 .refine Cq.wp.yes h2 ?_
  show _=_
  rw[ă h2]
 refine Cq.wp.no h2 ?_
 show _=_
 rw[ā h2]
theorem Kq{k:Zc}(h:ç k):∀{l:Ŀ M}{c:Zc}{f:M},(∀π∈l,gH k.n.toNat π)->(nm k l (c,f,ø c)).Α ((fq k l (c,f)).1,(fq k l (c,f)).2,ø (fq k l (c,f)).1)
 |[],_,_,_=>rfl
 |π::l,c,f,a=>by
  refine⟨_,RI h (a π ß),?_⟩;dsimp only;rw[ā (ZBg c)];unfold fq;split
  .exact Kq h (λx d=>a x (by simp[d]))
  exact Kq h (λx d=>a x (by simp[d]))
theorem lY{k:Zc}(h:ç k):∀π∈Β k.n.toNat,gH k.n.toNat π:=λ_ hp=>oo (by have:=h.n;omega) hp
theorem SB{k:Zc}(h:ç k):(EC k).Α (â k):=by refine⟨h.n,((â k).1,(â k).2,ø (â k).1),?_,rfl⟩;have hp:=lY h;rw[vv]at hp⊢;refine⟨_,RI h (hp _ ß),?_⟩;rw[ă rfl];exact Kq h (λx a=>hp x (by simp[a]))
theorem Zvk{k:Zc}(h:ç k):(K1 k).Α (â k):=by
 have hp:=lY h;obtain⟨n,t,y,A⟩:=vH h.n;have c:k.n.toNat=n:=ŉ;have a:(Β n).length<=24:=by
  have e:n=1\/n=2\/n=3\/n=4:=ŉ;rcases e with rfl|rfl|rfl|rfl<;>decide +kernel
 unfold â;rw[c]at hp⊢;refine⟨Β n,by rw[t];exact Zwk ⟨y,A⟩,?_⟩;rw[vv]at hp a⊢;generalize (Β n).tail=l at *;generalize q:(λi:Fin 8=>(i.val:Int))=ι at *;rw[ě]at a;refine⟨ι,⟨ĳ,rfl⟩,_,Qh h (by rw[c];exact hp ι ß),ι,⟨ĳ,rfl⟩,?_⟩;have u:ç (ý k ι):=(lX h (by rw[c];exact hp ι ß)).core;refine Cq.Zn l.length (λj s=>s=(((j+1:Nat):Int),(fq k (l.take j) (ý k ι,ι)).1,(fq k (l.take j) (ý k ι,ι)).2)) (λj s r oz=>?_) (λs oz=>?_) rfl
 .subst oz;have g:gH k.n.toNat l[j]:=by rw[c];exact hp _ ß
  have p:ç (fq k (l.take j) (ý k ι,ι)).1:=Mc h (λx v=>by rw[c];exact hp x (by simp[Ŝ v])) u;have d:j+1<(ι::l).length:=by rw[ě];omega
  have e:(ι::l)[j+1]=l[j]:=rfl;refine Cq.wp.yes (by rw[ě];omega) ⟨_,Λ d,_,by rw[e];exact Qh h g,_,TS (lX h g).core,_,TS p,?_⟩;have m:i64.wrap (((j+1:Nat):Int)+1)=((j+1+1:Nat):Int):=ψ ŉ;rw[Ĉ r,SS];by_cases f:Op.bytesLess (ø (ý k l[j])).toList (ø (fq k (l.take j) (ý k ι,ι)).1).toList=true
  .rw[ă f];refine Cq.wp.yes f ⟨_,Λ d,?_⟩;show _=_;rw[m];rfl
  rw[ā f];refine Cq.wp.no f ?_;show _=_;rw[m]
 subst oz;refine Cq.wp.no (by rw[ě];omega) ?_;rw[Ę (ĉ _)];rfl
end Go.EL

namespace Go.EL
open Go.IntKind (i8 i16 i32 i64 u8 u16 u32 u64)
open Go Go.RowKit
def k0{α:Type}(S:α->Prop)(w:α->Ŀ Int):Prop:=∀a b x y,S a->S b->w a++x=w b++y->w a=w b/\x=y
theorem k0.both{α:Type}{S:α->Prop}{f g:α->Ŀ Int}(j:k0 S f)(k:k0 S g):k0 S λa=>f a++g a:=λa b x y c d h=>by have h:(f a++g a)++x=(f b++g b)++y:=h;show f a++g a=f b++g b/\_;rw[Đ,Đ]at h;obtain⟨e,h2⟩:=j a b _ _ c d h;obtain⟨h3,i⟩:=k a b _ _ c d h2;exact⟨by rw[e,h3],i⟩
theorem k0.of{α β:Type}{S:α->Prop}{T:β->Prop}{w:β->Ŀ Int}(h:k0 T w)(g:α->β)(c:∀a,S a->T (g a)):k0 S λa=>w (g a):=λa b x y d f e=>h _ _ x y (c a d) (c b f) e
theorem k0.len{α:Type}{S:α->Prop}{w:α->Ŀ Int}(k:Nat)(h:∀a,S a->(w a).length=k):k0 S w:=λa b _ _ c d e=>List.append_inj e (by rw[h a c,h b d])
theorem H3(n:Int):u8.wrap n=n % 256:=rfl
theorem Ui:∀(f:Nat) {n m:Int}{x y:Ŀ Int},(0<=n/\n<128*128 ^ f/\n<18446744073709551616)->(0<=m/\m<128*128 ^ f/\m<18446744073709551616)->iM f n++x=iM f m++y->n=m/\x=y
 |0,n,m,x,y,c,a,h=>by simp only[iM,ĸ,ļ,Ő,H3]at h;have:(128:Int)*128 ^ 0=128:=rfl;exact⟨ŉ,h.2⟩
 |f+1,n,m,x,y,c,a,h=>by
  have hp:(128:Int)*128 ^ (f+1)=128*(128*128 ^ f):=by rw[Int.pow_succ];omega
  have key:∀{z:Int},(0<=z/\z<128*128 ^ (f+1)/\z<18446744073709551616)->u64.wrap (Int.tdiv z 128)=z / 128/\Int.tmod z 128=z % 128:=λ{z} d=>by obtain⟨d0,d1⟩:=qF d.1;exact⟨by rw[d1];exact qO ⟨ŉ,ŉ⟩,Ŗ d.1⟩
  obtain⟨i,j⟩:=key c;obtain⟨e,g⟩:=key a;unfold iM at h;rw[i,j,e,g]at h;simp only[H3]at h;split at h
  .split at h
   .simp only[ĸ,Ő]at h;obtain⟨k,h2⟩:=Ui f (n:=n / 128) (m:=m / 128) ⟨ŉ,ŉ,ŉ⟩ ⟨ŉ,ŉ,ŉ⟩ h.2;exact⟨ŉ,h2⟩
   simp only[ĸ,ļ,Ő]at h;omega
  split at h
  .simp only[ĸ,ļ,Ő]at h;omega
  simp only[ĸ,ļ,Ő]at h;exact⟨ŉ,h.2⟩
theorem LX{n m:Int}{x y:Ŀ Int}(c:0<=n/\n<18446744073709551616)(a:0<=m/\m<18446744073709551616)(h:fA n++x=fA m++y):n=m/\x=y:=by have:(128:Int)*128 ^ 10=151115727451828646838272:=ĳ;exact Ui 10 ⟨c.1,ŉ,c.2⟩ ⟨a.1,ŉ,a.2⟩ h
theorem pw(n:Int):0<=u64.wrap n/\u64.wrap n<18446744073709551616:=by rw[abx];omega
theorem UO{α:Type}(S:α->Prop)(g:α->Int):k0 S λa=>fA (u64.wrap (g a)):=λa b x y _ _ h=>by obtain⟨c,h2⟩:=LX (pw _) (pw _) h;exact⟨by show fA _=fA _;rw[c],h2⟩
theorem LP{α:Type}{S:α->Prop}{w:α->Ŀ Int}(h:k0 S w):∀{l m:Ŀ α}{x y:Ŀ Int},l.length=m.length->(∀a∈l,S a)->(∀a∈m,S a)->l.flatMap w++x=m.flatMap w++y->l.flatMap w=m.flatMap w/\x=y
 |[],[],_,_,_,_,_,e=>⟨rfl,e⟩
 |[],_::_,_,_,d,_,_,_=>by cases d
 |_::_,[],_,_,d,_,_,_=>by cases d
 |a::l,b::m,x,y,d,g,h2,e=>by rw[Ś,Ś,Đ,Đ]at e;obtain⟨i,j⟩:=h a b _ _ (g a ß) (h2 b ß) e;obtain⟨k,q4⟩:=LP h (l:=l) (m:=m) (by simpa using d) (λc f=>g c (by simp[f])) (λc f=>h2 c (by simp[f])) j;exact⟨by rw[Ś,Ś,i,k],q4⟩
theorem Tt{α:Type}{S:α->Prop}{w:α->Ŀ Int}(h:k0 S w):k0 (λl:Ŀ α=>l.length<=1000000/\∀a∈l,S a) λl=>fA (u64.wrap (l.length:Int))++l.flatMap w:=λl m x y d f e=>by have e:(fA (u64.wrap (l.length:Int))++l.flatMap w)++x=(fA (u64.wrap (m.length:Int))++m.flatMap w)++y:=e;show fA _++_=fA _++_/\_;rw[Đ,Đ]at e;obtain⟨c,h2⟩:=LX (pw _) (pw _) e;rw[xI d.1,xI f.1]at c;have c:l.length=m.length:=ŉ;obtain⟨h3,g⟩:=LP h c d.2 f.2 h2;exact⟨by rw[c,h3],g⟩
theorem UG:k0 (λa:Zg=>a.χ.length<=1000000) lu:=λa b x y j k e=>by
 unfold lu at e⊢;rw[Đ,Đ]at e;have g:∀c:Zg,c.χ.length<=1000000->(if c.neg=true then u64.wrap (u64.wrap (2*u64.wrap (c.χ.length:Int))+1)else u64.wrap (2*u64.wrap (c.χ.length:Int)))=2*(c.χ.length:Int)+if c.neg=true then 1 else 0:=λc l=>by rw[xI l,qO (x:=2*(c.χ.length:Int)) ⟨ŉ,ŉ⟩,qO (x:=2*(c.χ.length:Int)+1) ⟨ŉ,ŉ⟩];split<;>omega
 rw[g a j,g b k]at e⊢;obtain⟨f,h2⟩:=LX (by split<;>omega) (by split<;>omega) e;have h3:a.χ.length=b.χ.length:=by split at f<;>split at f<;>omega
 obtain⟨h,i⟩:=LP (S:=λ_=>True) (k0.len 4 λd _=>Li d) h3 (λ_ _=>trivial) (λ_ _=>trivial) h2;exact⟨by rw[f,h],i⟩
theorem YT:k0 (λa:Zf=>a.num.χ.length<=1000000/\a.den.χ.length<=1000000) mK:=k0.both (UG.of _ λa h=>h.1) (UG.of _ λa h=>h.2)
theorem UL(S:(Fin 8->Int)->Prop):∀k,k0 S λm=>iL m k
 |0=>λ_ _ _ _ _ _ e=>⟨rfl,e⟩
 |k+1=>k0.both (UL S k) (UO S _)
theorem Zzi:k0 (λt:Za=>t.c.num.χ.length<=1000000/\t.c.den.χ.length<=1000000) ga:=k0.both (YT.of _ λa h=>h) ((UL (λ_=>True) 8).of _ λa _=>trivial)
theorem ω.code{p:Ö}(h:ω p):p.length<=1000000/\∀t∈p,t.c.num.χ.length<=1000000/\t.c.den.χ.length<=1000000:=⟨by have:=h.len;omega,λt c=>by
 obtain⟨a,e,d,h2,h3⟩:=(h.tu t c).c;have f:t.c.num.χ.length<=1/\t.c.den.χ.length<=1:=by
  have:(á (-12) 12 λa=>decide ((ü a).num.χ.length<=1/\(ü a).den.χ.length<=1))=true:=by decide +kernel
  rw[e];exact ĥ (Zr this (x:=a) ŉ ŉ)
 omega⟩
theorem ZyW:k0 ω fH:=λa b x y c d e=>Tt Zzi a b x y c.code d.code e
theorem S5:k0 (λl:Ŀ Ö=>l.length<=1000000/\∀p∈l,ω p) fV:=Tt ZyW
theorem ç.code{k:Zc}(h:ç k):(k.eqs.length<=1000000/\∀p∈k.eqs,ω p)/\k.ε.length<=1000000/\∀p∈k.ε,ω p:=
 ⟨⟨by have:=h.eqs.len;omega,λp hp=>(h.eqs.ie p hp).1⟩,by have:=h.ε.len;omega,λp hp=>(h.ε.ie p hp).1⟩
theorem Zyw:k0 ç hC:=k0.both (k0.both (UO _ _) (S5.of _ λa h=>h.code.1)) (S5.of _ λa h=>h.code.2)
def ml(l:Ŀ Int):Prop:=∀n∈l,0<=n/\n<256
theorem ml.append{a b:Ŀ Int}(h:ml a)(k:ml b):ml (a++b):=λn c=>(Ĩ.1 c).elim (h n) (k n)
theorem H2(n:Int):0<=u8.wrap n/\u8.wrap n<256:=by rw[H3];omega
theorem uh:∀(f:Nat) (n:Int),ml (iM f n)
 |0,n=>λm a=>by rw[Ĕ.1 a];exact H2 _
 |f+1,n=>λm a=>by
  unfold iM at a;split at a
  .rcases Ď.1 a with rfl|a
   .exact H2 _
   exact uh f _ m a
  rw[Ĕ.1 a];exact H2 _
theorem Gd{α:Type}{w:α->Ŀ Int}(h:∀a,ml (w a))(l:Ŀ α):ml (l.flatMap w):=λn c=>by obtain⟨a,_,h2⟩:=List.mem_flatMap.1 c;exact h a n h2
theorem Zx6(d:Int):ml (fI d):=λn a=>by
 simp only[fI,Ď,Ĝ,Ť]at a;rcases a with rfl|rfl|rfl|rfl<;>exact H2 _
theorem Tp(a:Zg):ml (lu a):=(uh _ _).append (Gd Zx6 _)
theorem Ug(m:Fin 8->Int):∀k,ml (iL m k)
 |0=>λ_ h=>by cases h
 |k+1=>(Ug m k).append (uh _ _)
theorem ZxY(t:Za):ml (ga t):=((Tp _).append (Tp _)).append (Ug _ 8)
theorem S4(p:Ö):ml (fH p):=(uh _ _).append (Gd ZxY _)
theorem Sj(l:Ŀ Ö):ml (fV l):=(uh _ _).append (Gd S4 _)
theorem S0(k:Zc):ml (hC k):=((uh _ _).append (Sj _)).append (Sj _)
theorem Zvx(l:Ŀ Int):∀r:Ĳ,(l.foldl (λr n=>r.push (UInt8.ofNat n.toNat)) r).data.toList=r.data.toList++l.map λn=>UInt8.ofNat n.toNat:=by
 induction l with
 |nil=>intro r;simp
 |cons n l a=>
  intro r;rw[List.foldl_cons,a];simp[ByteArray.push]
theorem AU(l:Ŀ Int):(bytesOf l).data.toList=l.map λn=>UInt8.ofNat n.toNat:=by unfold bytesOf;rw[Zvx];rfl
theorem U8:∀{l m:Ŀ Int},ml l->ml m->(l.map λn=>UInt8.ofNat n.toNat)=(m.map λn=>UInt8.ofNat n.toNat)->l=m
 |[],[],_,_,_=>rfl
 |[],_::_,_,_,h=>by cases h
 |_::_,[],_,_,h=>by cases h
 |a::l,b::m,d,h2,h=>by rw[ġ,ġ,Ő]at h;have e:=đ UInt8.toNat h.1;rw[UInt8.toNat_ofNat',UInt8.toNat_ofNat']at e;have f:=d a ß;have k2:=h2 b ß;rw[U8 (λn c=>d n (by simp[c])) (λn c=>h2 n (by simp[c])) h.2];congr 1;omega
theorem ZtO{l m:Ŀ Int}(a:ml l)(h2:ml m)(h:bytesOf l=bytesOf m):l=m:=by refine U8 a h2 ?_;rw[<-AU,<-AU,h]
theorem Zwy{a b:Ĳ}(h:a.data.toList=b.data.toList):a=b:=by cases a;cases b;have h:=Ż h;dsimp only at h;rw[h]
theorem JG(l m:Ŀ Int):bytesOf l++bytesOf m=bytesOf (l++m):=by refine Zwy ?_;rw[AU,Ī,<-AU,<-AU];simp
end Go.EL

namespace Go.EL
open Go.IntKind (i8 i16 i32 i64 u8 u16 u32 u64)
open Go Go.RowKit
def Da(p:Ö):Bool:=decide (p.Pairwise λx y=>0<Ú x.m y.m)&&p.all (λt=>fu t.c&&decide (∀i,0<=t.m i/\t.m i<=65535))&&decide (p.length<=100)
theorem ω.of{p:Ö}(h:Da p=true):ω p:=by unfold Da at h;simp only[Ċ,ę,Ć]at h;obtain⟨⟨c,h2⟩,h3⟩:=h;refine⟨c,λt a=>⟨?_,(h2 t a).2⟩,h3⟩;obtain⟨n,e,d,f,g⟩:=ug (h2 t a).1;exact⟨n,e,d,f,g⟩
end Go.EL

namespace Go.EL
open Go.IntKind (i8 i16 i32 i64 u8 u16 u32 u64)
open Go Go.RowKit
theorem UX{c:Cq Bool}{P:Prop}(h:c.wp λb=>(b=true↔P)):(P/\c.Α true)\/(¬P/\c.Α false):=by
 by_cases hp:P
 .exact .inl ⟨hp,c.mono (λb a=>a.2 hp) h⟩
 exact .inr ⟨hp,c.mono (λb a=>by cases b with
  |true=>exact absurd (a.1 rfl) hp
  |false=>rfl) h⟩
structure vf (n:Nat) (next:Int) (l:Ŀ Zo) (k:Nat):Prop where
 ids:∀i (h:i<l.length),i<k->1<=l[i].id/\l[i].id<next
 inc:∀i (h:i+1<l.length),i+1<k->l[i].id<l[i+1].id
 ie:∀i (h:i<l.length),i<k->ω l[i].p/\Ï l[i].p (n:Int)=true
theorem vf.zero(n:Nat)(next:Int)(l:Ŀ Zo):vf n next l 0:=⟨λ_ _ h=>absurd h (ı _),λ_ _ h=>absurd h (ı _),λ_ _ h=>absurd h (ı _)⟩
end Go.EL

namespace Go.EL
open Go.IntKind (i8 i16 i32 i64 u8 u16 u32 u64)
open Go Go.RowKit
end Go.EL

namespace Go.EL
open Go.IntKind (i8 i16 i32 i64 u8 u16 u32 u64)
open Go Go.RowKit
theorem UP(n:Nat)(next:Int):im n next []:=⟨ß,λq a=>absurd a Ĝ,List.Pairwise.nil,λq a=>absurd a Ĝ⟩
end Go.EL

namespace Go.EL
open Go.IntKind (i8 i16 i32 i64 u8 u16 u32 u64)
open Go Go.RowKit
structure iq (x:ZA):Prop where
 n:0<=x.n/\x.n<=255
 l:∀y∈x.l,jh y
 iu:∀g∈x.iu,0<=g/\g<=255
theorem LV{y:Zu}(h:jh y){n:Nat}(e:n<=4){d:Int}(d0:0<=d)(d12:d<=12){k:Nat}(f:k<=4):ω (iK y n d k)/\Ï (iK y n d k) (n:Int)=true:=by
 have a:=ZyK h e d0 k;refine⟨a.ie ŉ ŉ ŉ,(pI ŉ).2 ⟨λt c i hi=>?_,λt c=>?_⟩⟩
 .have:=(a.yi t c).2.1 i hi;omega
 have:=(a.yi t c).2.2;omega
theorem im.XY{n:Nat}{next a:Int}{l:Ŀ Zo}(h:im n next l)(h2:next<=a):im n a l:=⟨h.len,λq c=>⟨(h.ids q c).1,œ (h.ids q c).2 h2⟩,h.inc,h.ie⟩
theorem im.snoc{n:Nat}{next:Int}{l:Ŀ Zo}(h:im n next l)(g:l.length<12){i:Int}{p:Ö}(hp:ω p/\Ï p (n:Int)=true)(f:1<=next)(hi:next<=i):im n (i+1) (l++[⟨i,p⟩]) where
 len:=by rw[Ā,ė];omega
 ids:=λq c=>by
  rcases Ĩ.1 c with c|c
  .have:=h.ids q c;omega
  rw[Ĕ]at c;subst c;show 1<=i/\i<i+1;omega
 inc:=by rw[eG];refine⟨h.inc,Ū _ _,λa e b d=>?_⟩;rw[Ĕ]at d;subst d;have:=h.ids a e;show a.id<i;omega
 ie:=λq c=>by
  rcases Ĩ.1 c with c|c
  .exact h.ie q c
  rw[Ĕ]at c;subst c;exact hp
def eN(x:ZA)(k:Nat):Int:=if 0<x.iu.length then Int.tmod (x.iu.getD (k % x.iu.length) 0) 4 else 0
def ñ(x:ZA)(n:Nat):Nat->Ŀ Zo×Ŀ Zo×Int
 |0=>([],[],1)
 |k+1=>
  if k % 3=2 then((ñ x n k).1,(ñ x n k).2.1++[⟨(ñ x n k).2.2+eN x k,iK (x.l.getD k ⟨[]⟩) n 2 3⟩],(ñ x n k).2.2+eN x k+1)
  else((ñ x n k).1++[⟨(ñ x n k).2.2+eN x k,iK (x.l.getD k ⟨[]⟩) n 2 3⟩],(ñ x n k).2.1,(ñ x n k).2.2+eN x k+1)
theorem ZtX(x:ZA)(n k:Nat):ñ x n (k+1) =
  if k % 3=2 then((ñ x n k).1,(ñ x n k).2.1++[⟨(ñ x n k).2.2+eN x k,iK (x.l.getD k ⟨[]⟩) n 2 3⟩],(ñ x n k).2.2+eN x k+1)
  else((ñ x n k).1++[⟨(ñ x n k).2.2+eN x k,iK (x.l.getD k ⟨[]⟩) n 2 3⟩],(ñ x n k).2.1,(ñ x n k).2.2+eN x k+1):=rfl
theorem VW{x:ZA}(h:iq x)(k:Nat):0<=eN x k/\eN x k<=3:=by
 unfold eN;split
 .rename_i hp;have a:k % x.iu.length<x.iu.length:=aad _ hp;have c:=h.iu (x.iu[k % x.iu.length]) (Ă a);rw[Ģ,ą a,ř];have:=Br c.1 (show(0:Int)<4 by decide);omega
 omega
structure Am (n:Nat) (k:Nat) (s:Ŀ Zo×Ŀ Zo×Int):Prop where
 next:1<=s.2.2/\s.2.2<=1+4*k
 eqs:im n s.2.2 s.1
 ε:im n s.2.2 s.2.1
 apart:∀a∈s.1,∀b∈s.2.1,a.id≠b.id
 len:s.1.length+s.2.1.length<=k
theorem Zy5{x:ZA}(h:iq x)(k:Nat):jh (x.l.getD k ⟨[]⟩):=by
 rw[Ģ];cases a:x.l[k]? with
 |none=>exact λv c=>by cases c
 |some y=>exact h.l y (ń a)
theorem Lk{x:ZA}(h:iq x){n:Nat}(j:n<=4):∀k,k<=6->Am n k (ñ x n k)
 |0,_=>⟨⟨ŋ 1,(by decide:(1:Int)<=1+4*0)⟩,UP _ _,UP _ _,λa c=>absurd c Ĝ,ĉ 0⟩
 |k+1,q=>by
  have f:=Lk h j k ŉ;obtain⟨m,p⟩:=VW h k;have hp:=LV (Zy5 h k) j (d:=2) ĳ ĳ (k:=3) ĳ;have l:=f.next;have r:=f.len;unfold ñ;generalize ñ x n k=s at *;obtain⟨e,i,nx⟩:=s;dsimp only at *;by_cases h3:k % 3=2
  .rw[ă h3];refine⟨⟨by show 1<=nx+eN x k+1;omega,by show nx+eN x k+1<=_;omega⟩,f.eqs.XY (by show nx<=nx+eN x k+1;omega),f.ε.snoc (by show i.length<12;omega) hp (by show 1<=nx;omega) (by show nx<=nx+eN x k;omega),λa c b g=>?_,by show e.length+(i++[_]).length<=k+1;rw[Ā,ė];omega⟩;rcases Ĩ.1 g with g|g
   .exact f.apart a c b g
   rw[Ĕ]at g;subst g;have:=(f.eqs.ids a c).2;show a.id≠nx+eN x k;dsimp only at this;omega
  rw[ā h3];refine⟨⟨by show 1<=nx+eN x k+1;omega,by show nx+eN x k+1<=_;omega⟩,f.eqs.snoc (by show e.length<12;omega) hp (by show 1<=nx;omega) (by show nx<=nx+eN x k;omega),f.ε.XY (by show nx<=nx+eN x k+1;omega),λa c b g=>?_,by show(e++[_]).length+i.length<=k+1;rw[Ā,ė];omega⟩;rcases Ĩ.1 c with c|c
  .exact f.apart a c b g
  rw[Ĕ]at c;subst c;have:=(f.ε.ids b g).2;show nx+eN x k≠b.id;dsimp only at this;omega
def gn:Ŀ Ĳ:=[AM,AL,AK]
theorem ZvT:(gn.all jm&&decide (gn.Pairwise λa b=>a≠b))=true:=by decide +kernel
def ju(x:ZA):Nat:=x.n.toNat % 4
def jc(x:ZA):Zx:=⟨gn.take (ju x),(ñ x (ju x) (min x.l.length 6)).1,(ñ x (ju x) (min x.l.length 6)).2.1,(ñ x (ju x) (min x.l.length 6)).2.2⟩
theorem Bw(x:ZA):ju x<4:=aad _ ĳ
theorem FF(x:ZA):(gn.take (ju x)).length=ju x:=by have:=Bw x;rw[č];show min _ 3=_;omega
theorem ZvP{x:ZA}(h:iq x):Good (jc x)/\(jc x).eqs.length+(jc x).ε.length<=6:=by
 have f:=Bw x;have hi:=Lk h (n:=ju x) ŉ (min x.l.length 6) ŉ;have a:=ZvT;simp only[Ċ,Ć,ę]at a;have e:=hi.len;have d:=hi.next;refine⟨⟨by show(gn.take _).length<=4;rw[FF];omega,λv c=>a.1 v (Ŝ c),a.2.sublist (List.take_sublist _ _),⟨d.1,?_⟩,?_,?_,hi.apart⟩,?_⟩
 .show (ñ x (ju x) (min x.l.length 6)).2.2<=1000000;omega
 .show im (gn.take _).length _ _;rw[FF];exact hi.eqs
 .show im (gn.take _).length _ _;rw[FF];exact hi.ε
 show(ñ x (ju x) (min x.l.length 6)).1.length+(ñ x (ju x) (min x.l.length 6)).2.1.length<=6;omega
theorem ts{x:ZA}(h:iq x):i64.wrap (Int.tmod x.n 4)=((ju x:Nat):Int):=by
 obtain⟨a,c⟩:=h.n;have e:Int.tmod x.n 4=((ju x:Nat):Int):=by rw[Ŗ a];unfold ju;omega
 have:=Bw x;rw[e,wrap64 ŉ]
theorem Zu8{x:ZA}(h:iq x):(FT x).Α (jc x):=by
 have C:=Bw x;unfold FT;rw[ts h];refine⟨⟨ŋ 0,ŉ,by show((ju x:Nat):Int)<=3;omega⟩,?_⟩;have g:∀s:Ŀ Zo×Ŀ Zo×Int,s=ñ x (ju x) (min x.l.length 6)->(Kg ((gn.take ((ju x:Nat):Int).toNat).drop (0:Int).toNat) s.1 s.2.1 s.2.2).Α (jc x):=λs m=>by subst m;show _=_;rw[Ē];rfl
 refine Cq.Zn (min x.l.length 6) (λk s=>s=((k:Int),(gn.take ((ju x:Nat):Int).toNat).drop (0:Int).toNat,(ñ x (ju x) k).1,(ñ x (ju x) k).2.1,(ñ x (ju x) k).2.2)) (λk s B m=>?_) (λs m=>?_) rfl
 .subst m;have hi:=Lk h (n:=ju x) ŉ k ŉ;have i:k<x.l.length:=ŉ;have D:=hi.next;have v:=hi.len;obtain⟨y,A⟩:=VW h k;refine Cq.wp.yes ŉ (Cq.wp.yes ŉ ?_);have key:(EU x (k:Int) ((gn.take ((ju x:Nat):Int).toNat).drop (0:Int).toNat) (ñ x (ju x) k).1 (ñ x (ju x) k).2.1 (ñ x (ju x) k).2.2 (eN x k)).wp (Out (λs=>s=(((k+1:Nat):Int),(gn.take ((ju x:Nat):Int).toNat).drop (0:Int).toNat,(ñ x (ju x) (k+1)).1,(ñ x (ju x) (k+1)).2.1,(ñ x (ju x) (k+1)).2.2)) λo=>(match o with|(e,f,c,d)=>Kg e f c d).wp λa=>a=jc x):=by
   refine⟨_,Λ i,iK x.l[k] (ju x) 2 3,?_,?_⟩
   .rw[ts h];exact LB (h.l _ (Ă i)) ŉ ĳ ĳ (k:=3) ĳ
   have t:x.l.getD k ⟨[]⟩=x.l[k]:=by rw[Ģ,ą i];rfl
   have u:i64.wrap ((ñ x (ju x) k).2.2+eN x k)=(ñ x (ju x) k).2.2+eN x k:=wrap64 ŉ;have j:i64.wrap ((ñ x (ju x) k).2.2+eN x k+1)=(ñ x (ju x) k).2.2+eN x k+1:=wrap64 ŉ;have p:Int.tmod (k:Int) 3=((k % 3:Nat):Int):=by rw[Ŗ ŉ];omega
   rw[ZtX];by_cases h3:k % 3=2
   .rw[ă h3];refine Cq.wp.yes (by rw[p];omega) ⟨?_,?_⟩
    .rw[Ā,ė];simp only[small];omega
    show _=_;rw[ψ ŉ,u,j,t]
   rw[ā h3];refine Cq.wp.no (by rw[p];omega) ⟨?_,?_⟩
   .rw[Ā,ė];simp only[small];omega
   show _=_;rw[ψ ŉ,u,j,t]
  show(EV x (k:Int) _ _ _ _).wp _;unfold EV;by_cases r:0<x.iu.length
  .have l:k % x.iu.length<x.iu.length:=aad _ r;have p:Int.tmod (k:Int) (x.iu.length:Int)=((k % x.iu.length:Nat):Int):=by rw[Ŗ ŉ];rfl
   refine Cq.wp.yes ŉ ⟨ŉ,?_⟩;rw[p];refine⟨_,Λ l,?_⟩;have q:eN x k=Int.tmod x.iu[k % x.iu.length] 4:=by unfold eN;rw[ă r,Ģ,ą l,ř]
   dsimp only;rw[<-q,wrap64 ŉ];exact key
  have q:eN x k=0:=ā r;refine Cq.wp.no ŉ ?_;rw[q]at key;exact key
 subst m;by_cases v:x.l.length<=6
 .refine Cq.wp.no ŉ ?_;exact g _ rfl
 refine Cq.wp.yes ŉ (Cq.wp.no ŉ ?_);exact g _ rfl
end Go.EL

namespace Go.EL
open Go.IntKind (i8 i16 i32 i64 u8 u16 u32 u64)
open Go Go.RowKit
structure jR (k:Zc):Prop where
 n:0<=k.n/\k.n<=1000
 eqs:∀p∈k.eqs,ω p
 ε:∀p∈k.ε,ω p
 len:k.eqs.length<=12/\k.ε.length<=12
theorem jR.zero:jR iQ:=⟨ĳ,λp hp=>absurd hp Ĝ,λp hp=>absurd hp Ĝ,ĳ⟩
theorem ç.rh{k:Zc}(h:ç k):jR k:=⟨by have:=h.n;omega,λp hp=>(h.eqs.ie p hp).1,λp hp=>(h.ε.ie p hp).1,h.eqs.len,h.ε.len⟩
theorem jR.core{k:Zc}(h:jR k):(vw [] k).Α (hC k):=SI h.n h.eqs h.ε h.len.1 h.len.2
theorem ZvU{n:Int}{eqs ε:Ŀ Ö}(f:∀p∈eqs,ω p)(hi:∀p∈ε,ω p):jR (iw n eqs ε).1/\((iw n eqs ε).2=0->ç (iw n eqs ε).1):=by
 unfold iw;by_cases c:1<=n/\n<=4
 .rw[ă c];by_cases a:(eqs++ε).all (λp=>Ï p n)=true
  .rw[ă a];by_cases d:12<(er (hZ eqs ε)).length
   .rw[ă d];exact⟨jR.zero,λh=>absurd h ĳ⟩
   rw[ā d];by_cases h2:12<(er (kept ε true)).length
   .rw[ă h2];exact⟨jR.zero,λh=>absurd h ĳ⟩
   rw[ā h2];obtain⟨m,rfl,g,i⟩:=vH c;rw[List.all_append,Ċ]at a;have e:=Ve ⟨g,i⟩ (λp hp=>⟨f p hp,Ć.1 a.1 p hp⟩) (λp hp=>⟨hi p hp,Ć.1 a.2 p hp⟩) ŉ ŉ;exact⟨e.rh,λ_=>e⟩
  rw[ā a];exact⟨jR.zero,λh=>absurd h ĳ⟩
 rw[ā c];exact⟨jR.zero,λh=>absurd h ĳ⟩
theorem SC{l:Ŀ Zo}(d:l.length<=1000):(Fu l).Α (l.map (·.p)):=by
 refine Cq.Zn l.length (λk s=>s=((l.take k).map (·.p),(k:Int))) (λk s c a=>?_) (λs a=>?_) rfl
 .subst a;refine Cq.wp.yes ŉ ⟨_,Λ c,?_,?_⟩
  .simp only[Ā,ć,č,ė,small];omega
  show _=_;rw[ψ ŉ,Ĉ c,Ī];rfl
 subst a;refine Cq.wp.no ŉ ?_;rw[Ę (ĉ _)];exact rfl
def pA(s:Zx):Int:=if 1<(s.vars.length:Int)then(s.vars.length:Int)else 1
def na(s:Zx):Zc×Int:=iw (pA s) (s.eqs.map (·.p)) (s.ε.map (·.p))
theorem Good.wy{s:Zx}(h:Good s):(∀p∈s.eqs.map (·.p),ω p)/\∀p∈s.ε.map (·.p),ω p:=
 ⟨λp hp=>by obtain⟨q,a,rfl⟩:=ğ.1 hp;exact(h.eqs.ie q a).1,λp hp=>by obtain⟨q,a,rfl⟩:=ğ.1 hp;exact(h.ε.ie q a).1⟩
theorem Zvl{s:Zx}(h:Good s):(LH s).Α (na s):=by have a:=h.eqs.len;have c:=h.ε.len;obtain⟨p1,p2⟩:=h.wy;exact⟨true,ZpM h,Cq.wp.no ĳ ⟨_,SC ŉ,_,SC ŉ,_,Rw (by rw[ć];omega) (by rw[ć];omega) p1 p2,rfl⟩⟩
theorem VV{p:Ö}{n m:Nat}(e:n<=m)(c:m<=8)(h:Ï p (n:Int)=true):Ï p (m:Int)=true:=by obtain⟨a,h2⟩:=(pI ŉ).1 h;exact(pI c).2 ⟨λt d i hi=>a t d i ŉ,h2⟩
theorem Zyv{s:Zx}(h:Good s)(i:s.eqs.length+s.ε.length<=12):na s=(⟨pA s,er (hZ (s.eqs.map (·.p)) (s.ε.map (·.p))),er (kept (s.ε.map (·.p)) true)⟩,0)/\ç (na s).1:=by
 have j:=h.vars;obtain⟨m,f,k,l,mv⟩:∃m:Nat,pA s=(m:Int)/\1<=m/\m<=4/\s.vars.length<=m:=by
  unfold pA;by_cases c:1<(s.vars.length:Int)
  .rw[ă c];exact⟨_,rfl,ŉ,ŉ,ĉ _⟩
  rw[ā c];exact⟨1,rfl,ŉ,ŉ,ŉ⟩
 have d:(s.eqs.map (·.p)++s.ε.map (·.p)).all (λp=>Ï p (m:Int))=true:=Ć.2 λp hp=>by
  rcases Ĩ.1 hp with hp|hp
  .obtain⟨q,a,rfl⟩:=ğ.1 hp;exact VV mv ŉ (h.eqs.ie q a).2
  obtain⟨q,a,rfl⟩:=ğ.1 hp;exact VV mv ŉ (h.ε.ie q a).2
 have n:=GA (hZ (s.eqs.map (·.p)) (s.ε.map (·.p)));have g:=TG (s.eqs.map (·.p)) (s.ε.map (·.p));have r:=GA (kept (s.ε.map (·.p)) true);have q4:=vz (s.ε.map (·.p)) true;rw[ć,ć]at g;rw[ć]at q4;have e:na s=(⟨pA s,er (hZ (s.eqs.map (·.p)) (s.ε.map (·.p))),er (kept (s.ε.map (·.p)) true)⟩,0):=by unfold na iw;rw[f,ă ⟨ŉ,ŉ⟩,ă d,ā ŉ,ā ŉ]
 obtain⟨p1,p2⟩:=h.wy;exact⟨e,(ZvU p1 p2).2 (by show(na s).2=0;rw[e])⟩
theorem YN{n:Nat}(h:1<=n/\n<=4):gH n λi=>(i.val:Int):=oo h (by rw[vv];exact aas)
theorem Zvy{k:Zc}(h:ç k):ç (â k).1:=by
 have hp:=lY h;have c:1<=k.n.toNat/\k.n.toNat<=4:=by have:=h.n;omega
 unfold â;rw[vv]at hp;exact Mc h (λx a=>hp x (by simp[a])) (lX h (hp _ ß)).core
end Go.EL

namespace Go.EL
open Go.IntKind (i8 i16 i32 i64 u8 u16 u32 u64)
open Go Go.RowKit
abbrev Ord:=Ŀ (Fin 8->Int)
theorem Uj{n:Int}(h:n<0):kD n=fA (u64.wrap (u64.wrap (2*u64.wrap (i64.wrap (0-i64.wrap (n+1))))+1)):=ā ŉ
theorem Uk{n:Int}(h:¬n<0):kD n=ly n:=ă ŉ
theorem Rx{b:Ŀ Int}(n:Int)(a:b.length<=900000):(AS b n).Α (b++kD n):=by
 by_cases h:n<0
 .refine Cq.wp.yes h ⟨_,vy (pw _) a,?_⟩;show _=_;rw[Uj h,aaH]
 refine Cq.wp.no h ⟨_,vy (pw _) a,?_⟩;show _=_;rw[Uk h,aaH];rfl
theorem L0(n:Int):(kD n).length<=11:=by
 by_cases h:n<0
 .rw[Uj h];exact rm _
 rw[Uk h];exact Gg _
theorem F5(m:Fin 8->Int):∀k,(gf m k).length<=11*k
 |0=>ĉ _
 |k+1=>by have a:=F5 m k;have h2:=L0 (Ζ m (k:Int));show(gf m k++kD _).length<=_;rw[Ā];omega
theorem Zvn{b:Ŀ Int}{o:Ord}(q:o.length<=40)(n:b.length<=600000):(Lg b o).Α (b++jF o):=by
 refine⟨_,vy (pw _) ŉ,?_⟩;unfold jF;have r:=rm (u64.wrap (o.length:Int));generalize fA (u64.wrap (o.length:Int))=N at *;show(Cq.next _ _).wp _;refine Cq.Zn o.length (λk st=>st=(b++N++(o.take k).flatMap λm=>gf m 8,(k:Int))) (λk st d a=>?_) (λst a=>?_) (by show _=_;simp)
 .subst a;have g:=uf (K:=88) (l:=o.take k) (f:=λm=>gf m 8) (λx _=>F5 x 8);rw[č]at g;have h:88*min k o.length<=3520:=ŉ;refine Cq.wp.yes ŉ ?_;show(Cq.next _ _).wp _;generalize c:(b++N++(o.take k).flatMap λm=>gf m 8)=B;have e:B.length<=650000:=by rw[<-c];simp only[Ā];omega
  refine Cq.Zn 8 (λj st=>st=(B++gf o[k] j,(j:Int))) (λj st p a=>?_) (λst a=>?_) (by show _=_;simp[gf])
  .subst a;have i:=F5 o[k] j;refine Cq.wp.yes ŉ ⟨_,Λ d,⟨ŉ,ŉ⟩,_,Rx _ (by rw[Ā];omega),?_⟩;show _=_;rw[ψ ŉ,Đ];rfl
  subst a;refine Cq.wp.no ĳ ?_;show _=_;rw[ψ ŉ,FC (λm=>gf m 8) o d,<-c];simp only[Đ]
 subst a;refine Cq.wp.no ŉ ?_;rw[Ę (ĉ _)];show _=_;rw[Đ]
structure rT (q:Ze):Prop where
 p:ω q.p
 o:q.o.length<=40
theorem ZvW{o:Ord}(h:o.length<=40):(jF o).length<=4000:=by unfold jF;have a:=rm (u64.wrap (o.length:Int));have h2:=uf (K:=88) (l:=o) (f:=λm=>gf m 8) (λx _=>F5 x 8);rw[Ā];have h3:88*o.length<=3520:=ŉ;omega
theorem Lt{q:Ze}(h:rT q):(oN q).length<=20000:=by unfold oN;have a:=L0 q.kind;have h2:=FG h.p;have h3:=ZvW h.o;rw[Ā,Ā];omega
def hW(q:Ze):Ĳ:=bytesOf (oN q)
theorem TQ{q:Ze}(h:rT q):(Gq q).Α (hW q):=by have a:=L0 q.kind;have h2:=FG h.p;exact⟨_,Rx (b:=[]) q.kind ĳ,_,SK h.p (by rw[ļ];omega),_,Zvn h.o (by rw[ļ,Ā];omega),rfl⟩
theorem Md{q:Ze}(h:rT q):(Bb q).Α (hW q):=⟨by have:=Lt h;omega,rfl⟩
theorem SM{a b:Ze}(c:rT a)(d:rT b):(D9 a b).Α (decide (hW a=hW b)):=⟨_,TQ c,_,TQ d,rfl⟩
theorem Fx{a b:Zc}(c:jR a)(d:jR b):(yP a b).Α (decide (ø a=ø b)):=⟨_,c.core,_,d.core,rfl⟩
theorem TX(m:Fin 8->Int):∀k,ml (gf m k)
 |0=>λ_ h=>by cases h
 |k+1=>(TX m k).append (by unfold kD;split<;>exact uh _ _)
theorem ZyO(n:Int):ml (kD n):=by unfold kD;split<;>exact uh _ _
theorem Tx(q:Ze):ml (oN q):=((ZyO _).append (S4 _)).append ((uh _ _).append (Gd (λm=>TX m 8) _))
def hQ(k:Zc)(q:Ze):Ĳ:=ø k++hW q
theorem VX{k m:Zc}{p q:Ze}(c:ç k)(d:ç m)(h:hQ k p=hQ m q):ø k=ø m/\hW p=hW q:=by unfold hQ ø hW at h;rw[JG,JG]at h;obtain⟨a,h2⟩:=Zyw k m _ _ c d (ZtO ((S0 k).append (Tx p)) ((S0 m).append (Tx q)) h);exact⟨by unfold ø;rw[a],by unfold hW;rw[h2]⟩
theorem JP(l:Ŀ Int):(bytesOf l).size=l.length:=RH l
theorem TB{k:Zc}(h:ç k):(hC k).length<=400000:=by have a:=AN (λp hp=>(h.eqs.ie p hp).1) h.eqs.len;have h2:=AN (λp hp=>(h.ε.ie p hp).1) h.ε.len;have h3:=rm (u64.wrap (2*u64.wrap k.n));have c:=Gg k.n;unfold hC;simp only[Ā];omega
theorem za{k:Zc}{q:Ze}(a:ç k)(c:rT q):(tI k q).Α (hQ k q):=by have d:=TB a;have h2:=Lt c;exact⟨_,zo a,_,Md c,by unfold ø hW;rw[JP,JP];omega,rfl⟩
theorem zg{k:Zc}{q:Ze}(a:ç k)(c:rT q):(hQ k q).size<=1000000:=by have d:=TB a;have h2:=Lt c;unfold hQ ø hW;rw[JG,JP,Ā];omega
def ù(kind:Int):Ŀ Ze:=if kind=5\/kind=8 then[⟨4,[],[]⟩]else if kind=6\/kind=10 then[⟨5,[],[]⟩]else if kind=7 then[⟨6,[],[]⟩]else[]
theorem FL(q:Ze):(yR q).Α (ù q.kind)/\(Ft q).Α (ù q.kind):=by
 unfold ù;by_cases a:q.kind=5
 .rw[ă (Or.inl a)];exact⟨Cq.wp.yes a (Cq.wp.yes (Ą a) rfl),Cq.wp.yes a (Cq.wp.yes (Ą a) rfl)⟩
 by_cases g:q.kind=8
 .rw[ă (Or.inr g)];exact⟨Cq.wp.no a (Cq.wp.yes (Ą g) rfl),Cq.wp.no a (Cq.wp.yes (Ą g) rfl)⟩
 rw[ā ŉ];have f:¬(decide (q.kind=8))=true:=by simpa using g
 by_cases c:q.kind=6
 .rw[ă (Or.inl c)];exact⟨Cq.wp.no a (Cq.wp.no f (Cq.wp.yes c (Cq.wp.yes (Ą c) rfl))),Cq.wp.no a (Cq.wp.no f (Cq.wp.yes c (Cq.wp.yes (Ą c) rfl)))⟩
 by_cases e:q.kind=10
 .rw[ă (Or.inr e)];exact⟨Cq.wp.no a (Cq.wp.no f (Cq.wp.no c (Cq.wp.yes (Ą e) rfl))),Cq.wp.no a (Cq.wp.no f (Cq.wp.no c (Cq.wp.yes (Ą e) rfl)))⟩
 rw[ā ŉ];have d:¬(decide (q.kind=10))=true:=by simpa using e
 by_cases h7:q.kind=7
 .rw[ă h7];exact⟨Cq.wp.no a (Cq.wp.no f (Cq.wp.no c (Cq.wp.no d (Cq.wp.yes h7 rfl)))),Cq.wp.no a (Cq.wp.no f (Cq.wp.no c (Cq.wp.no d (Cq.wp.yes h7 rfl))))⟩
 rw[ā h7];exact⟨Cq.wp.no a (Cq.wp.no f (Cq.wp.no c (Cq.wp.no d (Cq.wp.no h7 rfl)))),Cq.wp.no a (Cq.wp.no f (Cq.wp.no c (Cq.wp.no d (Cq.wp.no h7 rfl))))⟩
end Go.EL

namespace Go.EL
open Go.IntKind (i8 i16 i32 i64 u8 u16 u32 u64)
open Go Go.RowKit
theorem KS:∀{a b c:Ŀ UInt8},Op.bytesLess a b=true->Op.bytesLess b c=true->Op.bytesLess a c=true
 |[],_::_,_::_,_,_=>rfl
 |[],[],_,h,_=>by cases h
 |_::_,[],_,h,_=>by cases h
 |[],_::_,[],_,h=>by cases h
 |_::_,_::_,[],_,h=>by cases h
 |x::a,y::b,z::c,d,h2=>by
  simp only[Op.bytesLess,Ĵ,Ċ,ę,abc]at d h2⊢;rcases d with d|⟨rfl,d⟩
  .rcases h2 with h2|⟨rfl,h2⟩
   .exact .inl (UInt8.lt_trans d h2)
   exact .inl d
  rcases h2 with h2|⟨rfl,h2⟩
  .exact .inl h2
  exact .inr ⟨rfl,KS d h2⟩
theorem Sa:∀{a b:Ŀ UInt8},¬Op.bytesLess a b=true->¬Op.bytesLess b a=true->a=b
 |[],[],_,_=>rfl
 |[],_::_,h,_=>absurd rfl h
 |_::_,[],_,h=>absurd rfl h
 |x::a,y::b,c,h2=>by simp only[Op.bytesLess,Ĵ,Ċ,ę,abc,not_or,not_and]at c h2;have e:x=y:=UInt8.le_antisymm (UInt8.not_lt.1 h2.1) (UInt8.not_lt.1 c.1);subst e;rw[Sa (c.2 rfl) (h2.2 rfl)]
theorem Q0:∀a:Ŀ UInt8,¬Op.bytesLess a a=true
 |[],h=>by cases h
 |x::a,h=>by
  simp only[Op.bytesLess,Ĵ,Ċ,ę,abc]at h;rcases h with h|⟨_,h⟩
  .exact UInt8.lt_irrefl x h
  exact Q0 a h
def gZ(σ τ:M):M:=λi=>Ζ σ (τ i)
def pU(l:Ŀ M)(τ:M):Bool:=l.all (λσ=>l.any λρ=>decide (gZ σ τ=ρ))&&l.all λρ=>l.any λσ=>decide (gZ σ τ=ρ)
def kP(n:Nat):Bool:=(Β n).all (pU (Β n))
theorem ZvA(n:Nat):kP n=(Β n).all (pU (Β n)):=rfl
def qC(π:M):Bool:=decide (∀j:Fin 8,∃i:Fin 8,π i=(j.val:Int))
theorem ZwD:(kP 1&&kP 2&&kP 3&&kP 4)=true:=by decide +kernel
theorem Zzh:((Β 1).all qC&&(Β 2).all qC&&(Β 3).all qC&&(Β 4).all qC)=true:=by decide +kernel
theorem mZ{n:Nat}(h:1<=n/\n<=4){τ:M}(f:τ∈Β n):(∀σ∈Β n,gZ σ τ∈Β n)/\∀ρ∈Β n,∃σ∈Β n,gZ σ τ=ρ:=by
 have key:kP n=true:=by
  have:=ZwD;simp only[Ċ]at this;obtain⟨⟨⟨a,h2⟩,h3⟩,g⟩:=this;have i:n=1\/n=2\/n=3\/n=4:=ŉ;rcases i with rfl|rfl|rfl|rfl
  .exact a
  .exact h2
  .exact h3
  exact g
 rw[ZvA]at key;generalize Β n=l at *;have c:pU l τ=true:=Ć.1 key τ f;unfold pU at c;rw[Ċ,Ć,Ć]at c;refine⟨λσ e=>?_,λρ d=>?_⟩
 .obtain⟨ρ,a,h2⟩:=ej.1 (c.1 σ e);rw[ĥ h2];exact a
 obtain⟨σ,a,h2⟩:=ej.1 (c.2 ρ d);exact⟨σ,a,ĥ h2⟩
theorem Dn{n:Nat}(h:1<=n/\n<=4){π:M}(a:π∈Β n)(j:Fin 8):∃i:Fin 8,π i=(j.val:Int):=by
 have:=Zzh;simp only[Ċ,Ć]at this;obtain⟨⟨⟨c,h2⟩,h3⟩,d⟩:=this;have e:n=1\/n=2\/n=3\/n=4:=ŉ;rcases e with rfl|rfl|rfl|rfl
 .exact ĥ (c π a) j
 .exact ĥ (h2 π a) j
 .exact ĥ (h3 π a) j
 exact ĥ (d π a) j
theorem ZzQ{n:Nat}(h:1<=n/\n<=4){σ τ:M}(c:τ∈Β n)(i j:Fin 8)(a:(j.val:Int)=τ i):gZ σ τ i=σ j:=by unfold gZ;rw[<-a];exact Ó j.isLt
theorem Sg{n:Nat}(h:1<=n/\n<=4){σ τ:M}(c:σ∈Β n)(a:τ∈Β n)(m:M):fB σ (fB τ m)=fB (gZ σ τ) m:=by have e:=(oo h c).perm;have h2:=(oo h a).perm;have h3:=(oo h ((mZ h a).1 σ c)).perm;funext j;obtain⟨i,hi⟩:=Dn h c j;obtain⟨l,d⟩:=Dn h a i;rw[ui e _ i j hi.symm,ui h2 _ l i d.symm,ui h3 _ l j (by rw[ZzQ h a l i d.symm];exact hi.symm)]
def gY(F:Zf->Zf)(p:Ö):Ö:=p.map λt=>⟨F t.c,t.m⟩
theorem SZ{F:Zf->Zf}{p:Ö}(h:jw p):jw (gY F p):=by unfold gY jw;rw[Ÿ];exact h
theorem KX{π:M}(h:Ë π){p q:Ö}(hp:jw p)(c:jw q)(e:q.Perm (p.map (jn π))):à π p=q:=by obtain⟨a,h2⟩:=rn h hp;exact Sp c (a.trans e.symm) (Su h2)
theorem Sh{n:Nat}(h:1<=n/\n<=4){σ τ:M}(a:σ∈Β n)(c:τ∈Β n){p:Ö}(hp:ω p):à σ (à τ p)=à (gZ σ τ) p:=by have e:=(oo h a).perm;have h2:=(oo h c).perm;have h3:=(oo h ((mZ h c).1 σ a)).perm;have f:=oJ h2 hp;obtain⟨a1,a2⟩:=rn e f.ord;obtain⟨d,g⟩:=rn h2 hp.ord;refine(KX h3 hp.ord a2 ?_).symm;refine a1.trans ((d.map _).trans (abI ?_));rw[eF];refine ŭ λt _=>?_;show(⟨t.c,fB σ (fB τ t.m)⟩:Za)=⟨t.c,_⟩;rw[Sg h a c]
theorem ZvZ{π:M}(h:Ë π)(F:Zf->Zf){p:Ö}(hp:ω p):à π (gY F p)=gY F (à π p):=by obtain⟨a,c⟩:=rn h hp.ord;refine KX h (SZ hp.ord) (SZ c) ?_;unfold gY;rw[eF];refine(a.map _).trans (abI ?_);rw[eF];rfl
theorem YQ{s:Int}(d:s=1\/s = -1){u:Int}{g k:Nat}(f:1<=g)(h:1<=k){n:Int}(e:n % ((k*g:Nat):Int)=0):s*u*((s*(n / (g:Int))) / (k:Int))=u*(n / ((k*g:Nat):Int)):=by
 obtain⟨q,rfl⟩:∃q,n=((k*g:Nat):Int)*q:=⟨n / ((k*g:Nat):Int),by have:=et n ((k*g:Nat):Int);omega⟩;have c:((k*g:Nat):Int)*q=(g:Int)*((k:Int)*q):=by rw[Int.natCast_mul,aaH (k:Int),Int.mul_assoc]
 have a:((k*g:Nat):Int)≠0:=by have:=Nat.mul_pos (show 0<k by omega) (show 0<g by omega);omega
 rw[lv _ a,c,lv _ ŉ];rcases d with rfl|rfl
 .rw[aax,aax,lv _ ŉ]
 rw[show(-1:Int)*((k:Int)*q)=(k:Int)*(-q) by rw[Int.mul_neg,Int.neg_mul,aax],lv _ ŉ,Int.neg_mul,aax,Int.neg_mul,Int.mul_neg,Int.neg_neg]
theorem Zzd{s:Int}(l:s=1\/s = -1){g:Nat}(k:1<=g){p:Ö}(hp:ω p)(d:p≠[])(j:∀t∈p,Í t.c % (g:Int)=0):jI (gY (fN s g) p)=s*jI p:=by
 match p,d with
 |t::p,_=>
  obtain⟨e,m,_⟩:=hp.num (t:=t) ß;have c:=j t ß;show(if Í (fN s g t.c)<0 then(-1:Int)else 1)=s*(if Í t.c<0 then -1 else 1);rw[LZ];have n:=Mz k c m;have i:=et (Í t.c) g;rw[c,aaF]at i;generalize Í t.c / (g:Int)=z at *;generalize Í t.c=N at *;have sg:z<0↔N<0:=by
   constructor
   .intro f;have:=abj (show(0:Int)<(g:Int) by omega) f;omega
   intro a;by_cases f:0<z
   .have:=Int.mul_pos (show(0:Int)<(g:Int) by omega) f;omega
   omega
  rcases l with rfl|rfl
  .rw[aax,aax];by_cases a:N<0
   .rw[ă a,ă (sg.2 a)]
   rw[ā a,ā (λh=>a (sg.1 h))]
  by_cases a:N<0
  .have:=sg.2 a;rw[ă a,ā ŉ];rfl
  have:¬z<0:=λh=>a (sg.1 h);rw[ā a,ă ŉ];rfl
theorem ZxF{s:Int}(h:s=1\/s = -1){g:Nat}(f:1<=g){p:Ö}(hp:ω p)(i:∀t∈p,Í t.c % (g:Int)=0):Υ (gY (fN s g) p)=Υ p:=by
 by_cases c:p=[]
 .subst c;rfl
 have j:=KY h f i;have a:ò (gY (fN s g) p)*g=ò p:=j;have l:1<=ò (gY (fN s g) p):=by
  have:=(xy hp c).1;rcases aa9 (ò (gY (fN s g) p))with e|e
  .rw[e,dO]at a;omega
  exact e
 show(gY (fN s g) p).map (λt=>(⟨fN (jI (gY (fN s g) p)) (ò (gY (fN s g) p)) t.c,t.m⟩:Za))=p.map _;rw[Zzd h f hp c i];generalize ò (gY (fN s g) p)=k at *;unfold gY;rw[eF];refine ŭ λt m=>?_;have d:=xN m;rw[<-a]at d;show(⟨fN (s*jI p) k (fN s g t.c),t.m⟩:Za)=⟨fN (jI p) (ò p) t.c,t.m⟩;have:fN (s*jI p) k (fN s g t.c)=fN (jI p) (ò p) t.c:=by unfold fN;rw[pH,YQ h f l d,a]
 rw[this]
theorem S6{π:M}(h:Ë π){p:Ö}(hp:ω p):Υ (à π (Υ p))=Υ (à π p):=by
 by_cases a:p=[]
 .subst a;rfl
 have e:Υ p=gY (fN (jI p) (ò p)) p:=rfl;rw[e,ZvZ h _ hp];refine ZxF (Mr p) (xy hp a).1 (oJ h hp) (λt c=>?_);obtain⟨y,d,rfl⟩:=ğ.1 ((rn h hp.ord).1.mem_iff.1 c);have:=xN d;exact this
def kE(π:M)(l:Ŀ Ö):Ŀ Ö:=l.map λp=>Υ (à π p)
theorem Ts{n:Nat}{least:Int}{l:Ŀ Ö}(f:n<=4)(h:iU (n:Int) least l){π:M}(d:gH n π){plain:Bool}(hp:plain=true->1<=least):kept (l.map (à π)) plain=kE π l:=by have e:=GK f h d;unfold kept kE;rw[eF];refine List.filter_eq_self.2 λq g=>?_;obtain⟨p,c,rfl⟩:=ğ.1 g;obtain⟨j,k,i,q4⟩:=e (à π p) (ğ.2 ⟨p,c,rfl⟩);have:=ZAl (l:=[à π p]) (plain:=plain) (p:=à π p) ß i (λa=>by have:=hp a;omega);exact(ō.1 this).2
theorem zj{k:Zc}(h:ç k){π:M}(a:π∈Β k.n.toNat):ý k π=⟨k.n,er (kE π k.eqs),er (kE π k.ε)⟩:=by obtain⟨n,eqs,ε⟩:=k;obtain⟨m,rfl,e,c⟩:=vH h.n;have d:gH m π:=oo ⟨e,c⟩ a;rw[(lX h (lY h π a)).eq];have hi:=GK c h.ε d;dsimp only at hi⊢;unfold hZ;rw[Lp (λp hp=>(hi p hp).2.2.1),Ě,Ts c h.eqs d (λh=>by cases h),Ts c h.ε d (λ_=>ŋ 1)]
theorem VT{n:Nat}{least:Int}{l:Ŀ Ö}(h:iU (n:Int) least l){π:M}(a:Ë π):∀q∈kE π l,ω q:=λq c=>by obtain⟨p,hp,rfl⟩:=ğ.1 c;exact vD (oJ a (h.ie p hp).1)
theorem U1{n:Nat}(f:1<=n/\n<=4){least:Int}{l:Ŀ Ö}(h:iU (n:Int) least l){σ τ:M}(c:σ∈Β n)(d:τ∈Β n):er (kE σ (er (kE τ l)))=er (kE (gZ σ τ) l):=by
 have g:=(oo f c).perm;have h2:=(oo f d).perm;have h3:=(oo f ((mZ f d).1 σ c)).perm;have j:=VT h h2;obtain⟨a1,a2⟩:=F7 (λp hp=>(j p hp).gv);have r:∀q∈kE σ (er (kE τ l)),ω q:=λq e=>by obtain⟨p,hp,rfl⟩:=ğ.1 e;exact vD (oJ g (j p ((a2 p).1 hp)))
 obtain⟨k,m⟩:=F7 (λp hp=>(r p hp).gv);refine VU (λp hp=>(VT h h3 p hp).gv) k λz=>?_;rw[m z];constructor
 .intro i;obtain⟨p,hp,rfl⟩:=ğ.1 i;obtain⟨q,e,rfl⟩:=ğ.1 ((a2 p).1 hp);have a:=(h.ie q e).1;refine ğ.2 ⟨q,e,?_⟩;show Υ (à (gZ σ τ) q)=Υ (à σ (Υ (à τ q)));rw[S6 g (oJ h2 a),Sh f c d a]
 intro i;obtain⟨q,e,rfl⟩:=ğ.1 i;have a:=(h.ie q e).1;refine ğ.2 ⟨Υ (à τ q),(a2 _).2 (ğ.2 ⟨q,e,rfl⟩),?_⟩;show Υ (à σ (Υ (à τ q)))=Υ (à (gZ σ τ) q);rw[S6 g (oJ h2 a),Sh f c d a]
theorem Sf{k:Zc}(h:ç k){σ τ:M}(c:σ∈Β k.n.toNat)(a:τ∈Β k.n.toNat):ý (ý k τ) σ=ý k (gZ σ τ):=by have n:=(lX h (lY h τ a)).core;obtain⟨m,p,e,f⟩:=vH h.n;have d:k.n.toNat=m:=ŉ;have i:=h.eqs;have hi:=h.ε;rw[p]at i hi;rw[d]at c a;have g:=zj h (π:=τ) (by rw[d];exact a);have j:=zj h (π:=gZ σ τ) (by rw[d];exact(mZ ⟨e,f⟩ a).1 σ c);have l:=zj n (π:=σ) (by rw[g];show σ∈Β k.n.toNat;rw[d];exact c);rw[l,j,g];show(⟨k.n,er (kE σ (er (kE τ k.eqs))),er (kE σ (er (kE τ k.ε)))⟩:Zc)=_;rw[U1 ⟨e,f⟩ i c a,U1 ⟨e,f⟩ hi c a]
theorem Lu(k:Zc):∀(l:Ŀ M) (s:Zc×M),(∃ρ,s=(ý k ρ,ρ))->
  (∃ρ,fq k l s=(ý k ρ,ρ)/\(ρ∈l\/fq k l s=s))/\(¬Op.bytesLess (ø s.1).toList (ø (fq k l s).1).toList=true)/\∀π∈l,¬Op.bytesLess (ø (ý k π)).toList (ø (fq k l s).1).toList=true
 |[],s,⟨ρ,g⟩=>⟨⟨ρ,g,.inr rfl⟩,Q0 _,λπ i=>by cases i⟩
 |π::l,s,⟨ρ,g⟩=>by
  unfold fq;by_cases c:Op.bytesLess (ø (ý k π)).toList (ø s.1).toList=true
  .rw[ă c];obtain⟨⟨r,d,h2⟩,h3,f⟩:=Lu k l (ý k π,π) ⟨π,rfl⟩;refine⟨⟨r,d,?_⟩,λh=>?_,λx a=>?_⟩
   .rcases h2 with h2|h2
    .exact .inl (by simp[h2])
    rw[d]at h2;have e:=(Prod.mk.inj h2).2;exact .inl (by simp[e])
   .exact h3 (KS c h)
   rcases Ď.1 a with rfl|a
   .exact h3
   exact f x a
  rw[ā c];obtain⟨⟨r,d,h2⟩,h3,f⟩:=Lu k l s ⟨ρ,g⟩;refine⟨⟨r,d,?_⟩,h3,λx a=>?_⟩
  .rcases h2 with h2|h2
   .exact .inl (by simp[h2])
   exact .inr h2
  rcases Ď.1 a with rfl|a
  .intro h;by_cases e:Op.bytesLess (ø (fq k l s).1).toList (ø s.1).toList=true
   .exact c (KS h e)
   have:=Sa h3 e;rw[<-this]at h;exact c h
  exact f x a
theorem SU(k:Zc):∀(l:Ŀ M) (s:Zc×M),(∀π∈l,¬Op.bytesLess (ø (ý k π)).toList (ø s.1).toList=true)->fq k l s=s
 |[],_,_=>rfl
 |π::l,s,h=>by unfold fq;rw[ā (h π ß)];exact SU k l s λx a=>h x (by simp[a])
theorem E7(k:Zc):(∃ρ∈Β k.n.toNat,â k=(ý k ρ,ρ))/\∀π∈Β k.n.toNat,¬Op.bytesLess (ø (ý k π)).toList (ø (â k).1).toList=true:=by
 obtain⟨⟨ρ,c,h2⟩,h3,d⟩:=Lu k (Β k.n.toNat).tail (ý k (λi=>(i.val:Int)),λi=>(i.val:Int)) ⟨_,rfl⟩;rw[vv];refine⟨⟨ρ,?_,c⟩,λπ a=>?_⟩
 .rcases h2 with h2|h2
  .simp[h2]
  rw[c]at h2;have:=(Prod.mk.inj h2).2;simp[this]
 rcases Ď.1 a with rfl|a
 .exact h3
 exact d π a
theorem id_comp{n:Nat}(a:1<=n/\n<=4){ρ:M}(h:ρ∈Β n):gZ (λi=>(i.val:Int)) ρ=ρ:=by funext i;have hr:=(oo a h).perm.oC i;show Ζ _ (ρ i)=ρ i;rw[nc hr];show((ρ i).toNat:Int)=ρ i;omega
theorem Zl0{π:M}(h:Ë π):(Ju π).Α true:=by
 refine Cq.Zn 8 (λk s=>∃a:Fin 8->Bool,s=((k:Int),a)/\∀j,a j=true->∃i:Fin 8,i.val<k/\(j.val:Int)=π i) (λk s c e=>?_) (λs e=>?_) ⟨_,rfl,λj f=>by cases f⟩
 .obtain⟨a,rfl,d⟩:=e;have r:=h.oC ⟨k,c⟩;refine Cq.wp.yes ŉ ⟨⟨ŉ,ŉ⟩,?_⟩;rw[Ó c];refine Cq.wp.no ŉ ⟨⟨ŉ,ŉ⟩,Cq.wp.no ŉ ⟨⟨ŉ,ŉ⟩,r,Cq.wp.no (Gy h c d) ⟨⟨ŉ,ŉ⟩,r,?_⟩⟩⟩;rw[ψ ŉ];exact⟨_,rfl,FH h c d⟩
 obtain⟨a,rfl,d⟩:=e;exact Cq.wp.no ĳ rfl
end Go.EL

namespace Go.EL
open Go.IntKind (i8 i16 i32 i64 u8 u16 u32 u64)
open Go Go.RowKit
abbrev Qn:=Int×Nat
def Μ(x:Qn):Zf:=⟨ã x.1,ã (x.2:Int)⟩
def uR(n:Int)(d:Nat):Qn:=(n / ((Nat.gcd n.natAbs d:Nat):Int),d / Nat.gcd n.natAbs d)
def hN(x y:Qn):Qn:=uR (x.1*y.1) (x.2*y.2)
def mN(x y:Qn):Qn:=uR (x.1*(y.2:Int)-y.1*(x.2:Int)) (x.2*y.2)
def kn(x:Qn):Qn:=if x.1<0 then(-(x.2:Int),x.1.natAbs)else((x.2:Int),x.1.natAbs)
def pq(x:Qn):Int:=if x.1<0 then -1 else if x.1=0 then 0 else 1
def ic:Ŀ Qn:=[(0,1),(1,1),(-1,1),(2,1),(-2,1),(3,1),(-3,1),(1,2),(-1,2),(3,2),(-3,2),(1,3),(-1,3),(2,3),(-2,3)]
def jP(x:Qn):Bool:=match x.2 with
 |1=>match x.1 with
  |.ofNat n=>Nat.ble n 3
  |.negSucc n=>Nat.ble n 2
 |2=>match x.1 with
  |.ofNat n=>Nat.beq n 1 || Nat.beq n 3
  |.negSucc n=>Nat.beq n 0 || Nat.beq n 2
 |3=>match x.1 with
  |.ofNat n=>Nat.beq n 1 || Nat.beq n 2
  |.negSucc n=>Nat.beq n 0 || Nat.beq n 1
 |_=>false
theorem Gv{x:Qn}(h:jP x=true):x∈ic:=by
 obtain⟨n,d⟩:=x;unfold jP at h;dsimp only at h;split at h
 .cases n with
  |ofNat n=>have h:=š h;match n,h with|0,_=>decide|1,_=>decide|2,_=>decide|3,_=>decide
  |negSucc n=>have h:=š h;match n,h with|0,_=>decide|1,_=>decide|2,_=>decide
 .cases n with
  |ofNat n=>rw[Ĵ]at h;rcases h with h|h<;>(rw[ĵ h];decide)
  |negSucc n=>rw[Ĵ]at h;rcases h with h|h<;>(rw[ĵ h];decide)
 .cases n with
  |ofNat n=>rw[Ĵ]at h;rcases h with h|h<;>(rw[ĵ h];decide)
  |negSucc n=>rw[Ĵ]at h;rcases h with h|h<;>(rw[ĵ h];decide)
 cases h
theorem OE:(á (-1) 3 λn=>runs 40 (ZX n) (Μ (n,1))&&runs 40 (wW n) (Μ (n,1)))=true:=by decide +kernel
theorem OC:(ic.all λx=>runs 40 (oI (Μ x)) (pq x)&&runs 40 (ZH (Μ x)) (pq x))=true:=by decide +kernel
theorem OD:(ic.all λx=>x.1 == 0 || runs 60 (Gj (Μ x)) (Μ (kn x),0))=true:=by decide +kernel
theorem DD:(ic.all λx=>ic.all λy=>runs 60 (rl (Μ x) (Μ y)) (Μ (hN x y)))=true:=by decide +kernel
theorem DF:(ic.all λx=>ic.all λy=>runs 60 (Gm (Μ x) (Μ y)) (Μ (mN x y)))=true:=by decide +kernel
theorem DC:(ic.all λx=>ic.all λy=>runs 60 (Z7 (Μ x) (Μ y)) (Μ (hN x y)))=true:=by decide +kernel
theorem DE:(ic.all λx=>ic.all λy=>runs 60 (EB (Μ x) (Μ y)) (Μ (mN x y)))=true:=by decide +kernel
theorem DG:(ic.all λx=>ic.all λy=>y.1 == 0 || runs 60 (Ez (Μ x) (Μ y)) (Μ (hN x (kn y)),0))=true:=by decide +kernel
theorem ti{f:Qn->Qn->Bool}(h:(ic.all λx=>ic.all λy=>f x y)=true){x y:Qn}(a:jP x=true)(c:jP y=true):f x y=true:=Ć.1 (Ć.1 h x (Gv a)) y (Gv c)
theorem xO{n:Int}(h:-1<=n/\n<=3):(ZX n).Α (Μ (n,1))/\(wW n).Α (Μ (n,1)):=by have:=Zr OE h.1 h.2;rw[Ċ]at this;exact⟨Zs this.1,Zs this.2⟩
theorem MB{x:Qn}(h:jP x=true):(oI (Μ x)).Α (pq x)/\(ZH (Μ x)).Α (pq x):=by have:=Ć.1 OC x (Gv h);rw[Ċ]at this;exact⟨Zs this.1,Zs this.2⟩
theorem ZB3{x:Qn}(h:jP x=true)(a:x.1≠0):(Gj (Μ x)).Α (Μ (kn x),0):=by have:=Ć.1 OD x (Gv h);rw[Ĵ]at this;exact Zs (this.resolve_left (by simpa using a))
theorem O4{x y:Qn}(a:jP x=true)(c:jP y=true):(rl (Μ x) (Μ y)).Α (Μ (hN x y)):=Zs (ti DD a c)
theorem ZB6{x y:Qn}(a:jP x=true)(c:jP y=true):(Gm (Μ x) (Μ y)).Α (Μ (mN x y)):=Zs (ti DF a c)
theorem ZB4{x y:Qn}(a:jP x=true)(c:jP y=true):(Z7 (Μ x) (Μ y)).Α (Μ (hN x y)):=Zs (ti DC a c)
theorem ZB5{x y:Qn}(a:jP x=true)(c:jP y=true):(EB (Μ x) (Μ y)).Α (Μ (mN x y)):=Zs (ti DE a c)
theorem ZB7{x y:Qn}(c:jP x=true)(d:jP y=true)(a:y.1≠0):(Ez (Μ x) (Μ y)).Α (Μ (hN x (kn y)),0):=by have:=ti DG c d;rw[Ĵ]at this;exact Zs (this.resolve_left (by simpa using a))
end Go.EL

namespace Go.EL
open Go.IntKind (i8 i16 i32 i64 u8 u16 u32 u64)
open Go Go.RowKit
def nQ(n:Int):Qn:=uR n 3
def oV(n m:Int):Qn:=uR (2*n+3*m) 6
def nH(x:Qn):Bool:=runs 60 (uk (Μ x)) true&&runs 60 (ZZ (Μ x)) true
def qH(x:Qn)(b:Bool):Bool:=runs 60 (vx (Μ x)) b&&runs 60 (tD (Μ x)) b
def BQ(x y:Qn)(c:Int):Bool:=runs 60 (vF (Μ x) (Μ y)) c&&runs 60 (vj (Μ x) (Μ y)) c
theorem Ms:(á (-128) 127 λn=>runs 60 (xv ⟨n,3,0⟩) (Μ (nQ n))&&(nH (nQ n)&&qH (nQ n) (decide (n=0))))=true:=by decide +kernel
theorem TP:(á 0 7 λm=>runs 60 (xv ⟨m,2,0⟩) (Μ (uR m 2))&&qH (oV 0 m) (decide (m=0)))=true:=by decide +kernel
theorem ZBf:(á (-256) 275 λs=>nH (uR s 6))=true:=by decide +kernel
theorem ZzP:(á 0 7 λm=>á (-128) 127 λn=>BQ (nQ n) (oV n m) (if m=0 then 0 else -1))=true:=by decide +kernel
def nh(m:Int):Bool:=á (-128) 127 λn=>runs 60 (vE (Μ (nQ n)) (Μ (uR m 2))) (Μ (oV n m))
theorem ME:nh 0=true:=by decide +kernel
theorem MF:nh 1=true:=by decide +kernel
theorem MG:nh 2=true:=by decide +kernel
theorem MH:nh 3=true:=by decide +kernel
theorem MI:nh 4=true:=by decide +kernel
theorem MJ:nh 5=true:=by decide +kernel
theorem MK:nh 6=true:=by decide +kernel
theorem ML:nh 7=true:=by decide +kernel
theorem Zyn{m:Int}(h:0<=m/\m<=7):nh m=true:=by
 have:m=0\/m=1\/m=2\/m=3\/m=4\/m=5\/m=6\/m=7:=ŉ;rcases this with rfl|rfl|rfl|rfl|rfl|rfl|rfl|rfl
 .exact ME
 .exact MF
 .exact MG
 .exact MH
 .exact MI
 .exact MJ
 .exact MK
 exact ML
abbrev gR(n:Int):Prop:=-128<=n/\n<=127
abbrev iG(m:Int):Prop:=0<=m/\m<=7
theorem UI{n:Int}(h:gR n):(xv ⟨n,3,0⟩).Α (Μ (nQ n)):=by have:=Zr Ms h.1 h.2;rw[Ċ]at this;exact Zs this.1
theorem Zxf{m:Int}(h:iG m):(xv ⟨m,2,0⟩).Α (Μ (uR m 2)):=by have:=Zr TP h.1 h.2;rw[Ċ]at this;exact Zs this.1
theorem UF{n m:Int}(h:gR n)(a:iG m):(vE (Μ (nQ n)) (Μ (uR m 2))).Α (Μ (oV n m)):=
 Zs (Zr (Zyn a) h.1 h.2)
theorem Tv{n:Int}(h:gR n):(uk (Μ (nQ n))).Α true/\(ZZ (Μ (nQ n))).Α true:=by have:=Zr Ms h.1 h.2;unfold nH at this;simp only[Ċ]at this;exact⟨Zs this.2.1.1,Zs this.2.1.2⟩
theorem UJ{n:Int}(h:gR n):(vx (Μ (nQ n))).Α (decide (n=0))/\(tD (Μ (nQ n))).Α (decide (n=0)):=by have:=Zr Ms h.1 h.2;unfold qH at this;simp only[Ċ]at this;exact⟨Zs this.2.2.1,Zs this.2.2.2⟩
theorem ZAf{m:Int}(h:iG m):(vx (Μ (oV 0 m))).Α (decide (m=0))/\(tD (Μ (oV 0 m))).Α (decide (m=0)):=by have:=Zr TP h.1 h.2;unfold qH at this;simp only[Ċ]at this;exact⟨Zs this.2.1,Zs this.2.2⟩
theorem To{n m:Int}(h:gR n)(a:iG m):(uk (Μ (oV n m))).Α true/\(ZZ (Μ (oV n m))).Α true:=by have:=Zr ZBf (show -256<=2*n+3*m by omega) (show 2*n+3*m<=275 by omega);unfold nH at this;simp only[Ċ]at this;exact⟨Zs this.1,Zs this.2⟩
theorem TF{n m:Int}(h:gR n)(a:iG m):(vF (Μ (nQ n)) (Μ (oV n m))).Α (if m=0 then 0 else -1)/\(vj (Μ (nQ n)) (Μ (oV n m))).Α (if m=0 then 0 else -1):=by have:=Zr (Zr ZzP a.1 a.2) h.1 h.2;unfold BQ at this;simp only[Ċ]at this;exact⟨Zs this.1,Zs this.2⟩
def mj(n m:Int):Zl:=⟨Μ (nQ n),Μ (oV n m)⟩
theorem Qg{n m:Int}(h:gR n)(a:iG m):(JS (mj n m)).Α true:=by refine⟨true,(Tv h).1,true,(To h a).1,_,(TF h a).1,?_⟩;show decide _=true;split<;>decide
theorem Zoo{n m:Int}(h:gR n)(a:iG m):(Jz (mj n m)).Α true:=by refine⟨true,(Tv h).2,true,(To h a).2,_,(TF h a).2,?_⟩;show decide _=true;split<;>decide
end Go.EL

namespace Go.EL
open Go.IntKind (i8 i16 i32 i64 u8 u16 u32 u64)
open Go Go.RowKit
def fb{α:Type}(Z row:Ŀ α)(n:Nat):Ŀ α:=Z.take n++row.drop n
section
variable {α:Type}{Z row:Ŀ α}
theorem ZvE:fb Z row 0=row:=rfl
theorem Zw8(h:Z.length=row.length):fb Z row Z.length=Z:=by unfold fb;rw[List.take_length,h,List.drop_length,List.append_nil]
theorem Fb(h:Z.length=row.length){n:Nat}(a:Z.length<=n):fb Z row n=Z:=by unfold fb;rw[List.take_of_length_le a,List.drop_eq_nil_of_le ŉ,List.append_nil]
theorem Sv(h:Z.length=row.length)(n:Nat):(fb Z row n).length=row.length:=by unfold fb;rw[List.length_append,List.length_take,List.length_drop];omega
theorem Ly(h:Z.length=row.length){n:Nat}(a:n<row.length):(fb Z row n)[n]?=some row[n]:=by unfold fb;rw[ģ (by rw[č];omega),č,Ũ,show n+(n-min n Z.length)=n by omega];exact ą a
theorem AW(h:Z.length=row.length){n:Nat}(a:n<row.length):(fb Z row n).set n (Z[n]'ŉ)=fb Z row (n+1):=by
 refine ŷ λi=>?_;unfold fb;rw[aag];by_cases e:n=i
 .subst e;rw[ă rfl,ă (by rw[Ā,č,ľ];omega),Ė (by rw[č];omega),ų ŉ,ą ŉ]
 rw[ā e];by_cases hi:i<n
 .rw[Ė (by rw[č];omega),Ė (by rw[č];omega),ų hi,ų ŉ]
 rw[ģ (by rw[č];omega),ģ (by rw[č];omega),č,č,Ũ,Ũ];congr 1;omega
theorem KP(h:Z.length=row.length)(g:row.length<=1000){step:Int×Ŀ α->Cq ((Int×Ŀ α)⊕Ŀ α)}(f:∀n (i:n<row.length),(step ((n:Int),fb Z row n)).Α (.inl (((n+1:Nat):Int),(fb Z row n).set n (Z[n]'ŉ))))
  (h2:(step ((row.length:Int),Z)).Α (.inr Z)):(Cq.loop step (0,row)).Α Z:=by
 refine Cq.Zn row.length (λk s=>s=((k:Int),fb Z row k)) (λk s d c=>?_) (λs c=>?_) rfl
 .subst c
  refine(step _).mono (λa (e:a=_)=>?_) (f k d)
  subst e
  show _=_
  rw[AW h d]
 subst c
 rw[<-h,Zw8 h]
 refine(step _).mono (λa (e:a=_)=>?_) (by rw[h];exact h2)
 subst e
 rfl
end
theorem uo{l:Ŀ Qn}{n:Nat}(h:n<l.length):(0:Int)<=(n:Int)/\(l.map Μ)[(n:Int).toNat]?=some (Μ l[n]):=⟨ŉ,by simp[h]⟩
theorem vp{α:Type}{Z row:Ŀ α}(h:Z.length=row.length){n:Nat}(a:n<row.length):(0:Int)<=(n:Int)/\(fb Z row n)[(n:Int).toNat]?=some row[n]:=⟨ŉ,by rw[Ē];exact Ly h a⟩
def pg(row ov:Ŀ Qn)(c:Qn):Ŀ Qn:=List.zipWith (λx y=>mN x (hN c y)) row ov
def qs(row ov:Ŀ Qn)(c:Qn):Bool:=jP c&&row.all jP&&ov.all jP&&ov.all (λy=>jP (hN c y))&&decide (row.length=8)&&decide (ov.length=8)
theorem Zyj{row ov:Ŀ Qn}{k:Nat}(j:k<row.length)(h:qs row ov row[k]=true):(Ke (row.map Μ) (ov.map Μ) (k:Int)).Α ((pg row ov row[k]).map Μ):=by
 unfold qs at h;simp only[Ċ,ę,Ć]at h;obtain⟨⟨⟨⟨⟨f,h2⟩,h3⟩,g⟩,l⟩,m⟩:=h;have d:((pg row ov row[k]).map Μ).length=(row.map Μ).length:=by rw[List.length_map,List.length_map];unfold pg;rw[List.length_zipWith];omega
 refine⟨_,uo j,?_⟩;show(Cq.next _ _).wp _;refine Cq.mono _ (λa (e:a=_)=>?_) (KP (Z:=(pg row ov row[k]).map Μ) (row:=row.map Μ) d (by rw[ć];omega) (λn c=>?_) ?_)
 .subst e;rfl
 .have nP:n<row.length:=by rwa [ć]at c
  have i:n<ov.length:=ŉ;refine Cq.wp.yes ŉ ⟨_,vp d c,_,uo i,Μ (hN row[k] ov[n]),O4 f (h3 _ (Ă _)),Μ (mN row[n] (hN row[k] ov[n])),?_,_,vp d c,?_⟩
  .rw[Ş];exact ZB6 (h2 _ (Ă _)) (g _ (Ă _))
  show _=_;rw[ψ ŉ];congr 3;simp[pg]
 exact Cq.wp.no (by rw[ć];omega) rfl
def eL:Ŀ Qn->Nat
 |[]=>0
 |x::l=>if x.1=0 then eL l+1 else 0
theorem LN:∀l:Ŀ Qn,eL l<=l.length
 |[]=>ĉ _
 |x::l=>by have:=LN l;unfold eL;split<;>simp only[ě]<;>omega
theorem TK:∀{l:Ŀ Qn}{n:Nat}(h:n<l.length),n<eL l->l[n].1=0
 |x::l,0,_,h=>by
  unfold eL at h;split at h
  .assumption
  omega
 |x::l,n+1,a,h=>by
  unfold eL at h;split at h
  .exact TK (l:=l) (by simpa using a) ŉ
  omega
theorem LO:∀{l:Ŀ Qn}(h:eL l<l.length),l[eL l].1≠0
 |x::l,h=>by
  by_cases a:x.1=0
  .have e:eL (x::l)=eL l+1:=ă a;simp only[e,aac];exact LO (l:=l) (by rw[e]at h;simpa using h)
  have e:eL (x::l)=0:=ā a;simp only[e,dU];exact a
theorem FI{x:Qn}:pq x=0↔x.1=0:=by
 unfold pq;split
 .constructor<;>intro<;>omega
 split<;>constructor<;>intro<;>omega
theorem Zwq{row:Ŀ Qn}(h:row.length=8)(a:row.all jP=true):(Rk (row.map Μ) 0).Α (eL row:Int):=by
 rw[Ć]at a;have f:=LN row;refine Cq.Zn (eL row) (λk s=>s=(k:Int)) (λk s d c=>?_) (λs c=>?_) rfl
 .subst c;refine Cq.wp.yes ŉ ⟨_,uo (l:=row) ŉ,_,(MB (a _ (Ă ŉ))).1,Cq.wp.yes (FI.2 (TK ŉ d)) ?_⟩;show _=_;rw[ψ ŉ]
 subst c;by_cases g:eL row<8
 .refine Cq.wp.yes ŉ ⟨_,uo (l:=row) ŉ,_,(MB (a _ (Ă ŉ))).1,Cq.wp.no (λe=>LO ŉ (FI.1 e)) rfl⟩
 exact Cq.wp.no ŉ rfl
def pn(row:Ŀ Qn)(c:Qn):Ŀ Qn:=row.map λx=>hN x c
theorem Zyk{row:Ŀ Qn}{c:Qn}(e:Int)(h:row.length=8)(a:row.all jP=true)(g:jP c=true):(Rj (Μ c,e) (0,row.map Μ)).Α ((pn row c).map Μ):=by
 rw[Ć]at a;have f:((pn row c).map Μ).length=(row.map Μ).length:=by simp[pn]
 refine KP (Z:=(pn row c).map Μ) (row:=row.map Μ) f (by rw[ć];omega) (λn d=>?_) ?_
 .have nP:n<row.length:=by rwa [ć]at d
  refine Cq.wp.yes ŉ ⟨_,vp f d,Μ (hN row[n] c),?_,_,vp f d,?_⟩
  .rw[Ş];exact O4 (a _ (Ă _)) g
  show _=_;rw[ψ ŉ];congr 3;simp[pn]
 exact Cq.wp.no (by rw[ć];omega) rfl
def gd(m:Fin 8->Int):Ŀ Qn:=(List.range 8).map λ(k:Nat)=>(Ζ m (k:Int),1)
def l1(m:Fin 8->Int):Bool:=decide (∀i,-1<=m i/\m i<=3)
theorem LJ(m:Fin 8->Int):(gd m).length=8:=by simp[gd]
theorem TW{m:Fin 8->Int}(h:l1 m=true){k:Nat}(a:k<8):-1<=Ζ m (k:Int)/\Ζ m (k:Int)<=3:=by rw[Ó a];exact ĥ h _
theorem Zws{o:Ord}{i:Nat}(hi:i<o.length)(h:l1 o[i]=true){z:Zf}:(QF o (i:Int) (0,List.replicate 8 z)).Α ((gd o[i]).map Μ):=by
 have c:((gd o[i]).map Μ).length=(List.replicate 8 z).length:=by rw[ć,LJ,Ĺ]
 refine KP (Z:=(gd o[i]).map Μ) (row:=List.replicate 8 z) c (by rw[Ĺ];omega) (λn a=>?_) ?_
 .have nP:n<8:=by rwa [Ĺ]at a
  refine Cq.wp.yes ŉ ⟨_,Λ hi,⟨ŉ,ŉ⟩,Μ (Ζ o[i] (n:Int),1),(xO (TW h nP)).1,_,vp c a,?_⟩;show _=_;rw[ψ ŉ];congr 3;simp[gd]
 exact Cq.wp.no (by rw[Ĺ];omega) rfl
def fC(done:Ŀ (Ŀ Qn×Nat))(row:Ŀ Qn):Nat->Ŀ Qn
 |0=>row
 |k+1=>match done[k]? with
  |some d=>pg (fC done row k) d.1 ((fC done row k).getD d.2 (0,1))
  |none=>fC done row k
def qt(done:Ŀ (Ŀ Qn×Nat))(row:Ŀ Qn):Bool:=(List.range done.length).all λk=>match done[k]? with
 |some d=>qs (fC done row k) d.1 ((fC done row k).getD d.2 (0,1))&&decide (d.2<8)
 |none=>false
theorem ZtJ{done:Ŀ (Ŀ Qn×Nat)}{row:Ŀ Qn}(l:done.length<=100)(h:qt done row=true):
  (Rl (done.map λd=>d.1.map Μ) (done.map λd=>(d.2:Int)) (0,row.map Μ)).Α ((fC done row done.length).map Μ):=by
 refine Cq.Zn done.length (λk s=>s=((k:Int),(fC done row k).map Μ)) (λk s c e=>?_) (λs e=>?_) rfl
 .subst e
  have a:=Ć.1 h k (ĺ.2 c)
  have f:done[k]?=some done[k]:=ą c
  rw[f]at a
  dsimp only at a
  rw[Ċ]at a
  have j:(fC done row k).length=8:=by have:=a.1;unfold qs at this;simp only[Ċ,ę]at this;exact this.1.2
  have h2:done[k].2<(fC done row k).length:=by rw[j];exact ĥ a.2
  have g:(fC done row k).getD done[k].2 (0,1)=(fC done row k)[done[k].2]:=by rw[Ģ,ą h2];rfl
  rw[g]at a
  refine Cq.wp.yes (by rw[ć];omega) ⟨done[k].1.map Μ,⟨ŉ,by simp[c]⟩,(done[k].2:Int),⟨ŉ,by simp[c]⟩,_,Zyj h2 a.1,?_⟩
  show _=_
  rw[ψ ŉ]
  congr 2
  have i:fC done row (k+1)=match done[k]? with|some d=>pg (fC done row k) d.1 ((fC done row k).getD d.2 (0,1))|none=>fC done row k:=rfl
  rw[i,f]
  dsimp only
  rw[g]
 subst e
 exact Cq.wp.no (by rw[ć];omega) rfl
def ó(o:Ord):Nat->Ŀ (Ŀ Qn×Nat)
 |0=>[]
 |k+1=>match o[k]? with
  |some m=>
   let row:=fC (ó o k) (gd m) (ó o k).length
   if eL row=8 then ó o k else ó o k++[(pn row (kn (row.getD (eL row) (0,1))),eL row)]
  |none=>ó o k
theorem Cq.eT{α β:Type}{c:Cq α}{k:α->Cq β}{p:β->Prop}{r:α}(h:c.Α r)(h2:(k r).wp p):(c.next k).wp p:=c.mono (λa (e:a=r)=>by rw[e];exact h2) h
def sU(o:Ord):Bool:=(List.range o.length).all λk=>match o[k]? with
 |some m=>
  let row:=fC (ó o k) (gd m) (ó o k).length
  l1 m&&qt (ó o k) (gd m)&&row.all jP&&decide (row.length=8)&&(eL row == 8 || (jP (row.getD (eL row) (0,1))&&jP (kn (row.getD (eL row) (0,1)))))
 |none=>false
theorem Sl(o:Ord):∀k,(ó o k).length<=k
 |0=>ĉ _
 |k+1=>by
  have:=Sl o k;unfold ó;split
  .dsimp only;split
   .omega
   rw[Ā];simp only[ě,Ļ];omega
  omega
theorem Zwt{o:Ord}(A:o.length<=40)(h:sU o=true):(F0 o).Α ((ó o o.length).length:Int):=by
 show(Cq.next _ _).wp _;refine Cq.Zn o.length (λk s=>s=((ó o k).map (λd=>d.1.map Μ),(ó o k).map (λd=>(d.2:Int)),(k:Int))) (λk s j l=>?_) (λs l=>?_) rfl
 .subst l;have e:=Ć.1 h k (ĺ.2 j);have q:o[k]?=some o[k]:=ą j;rw[q]at e;dsimp only at e;simp only[Ċ,ę]at e;obtain⟨⟨⟨⟨t,h2⟩,h3⟩,n⟩,g⟩:=e;have x:=Sl o k;have f:ó o (k+1)=if eL (fC (ó o k) (gd o[k]) (ó o k).length)=8 then ó o k else ó o k++[(pn (fC (ó o k) (gd o[k]) (ó o k).length) (kn ((fC (ó o k) (gd o[k]) (ó o k).length).getD (eL (fC (ó o k) (gd o[k]) (ó o k).length)) (0,1))),eL (fC (ó o k) (gd o[k]) (ó o k).length))]:=by
   show(match o[k]? with|some m=>_|none=>_)=_;rw[q]
  generalize y:ó o k=D at *;have c:=ZtJ (done:=D) (row:=gd o[k]) ŉ h2;generalize r:fC D (gd o[k]) D.length=row at *;have u:=LN row;refine Cq.wp.yes ŉ ?_;refine Cq.eT (Zws j t) (Cq.eT c (Cq.eT (Zwq n h3) ?_));by_cases i:eL row=8
  .refine Cq.wp.yes ŉ ?_;show _=_;rw[ψ ŉ,f,ă i]
  refine Cq.wp.no ŉ ?_;have a:eL row<row.length:=ŉ;have v:row.getD (eL row) (0,1)=row[eL row]:=by rw[Ģ,ą a];rfl
  rw[v]at g f;have p:jP row[eL row]=true/\jP (kn row[eL row])=true:=by rw[Ĵ,abc,Ċ]at g;exact g.resolve_left i
  refine⟨_,uo a,_,ZB3 p.1 (LO a),Cq.eT (Zyk 0 n h3 p.2) ?_⟩;refine⟨by simp only[Ā,ć,ě,Ļ];show _<=small;simp only[small];omega,by simp only[Ā,ć,ě,Ļ];show _<=small;simp only[small];omega,?_⟩;show _=_;rw[ψ ŉ,f,ā i,Ī,Ī];rfl
 subst l;refine Cq.wp.no ŉ ?_;show _=_;rw[ć]
end Go.EL

namespace Go.EL
open Go.IntKind (i8 i16 i32 i64 u8 u16 u32 u64)
open Go Go.RowKit
abbrev Mq:=Ŀ (Ŀ Qn)
def gB(V:Mq):Ŀ (Ŀ Zf):=V.map λr=>r.map Μ
theorem Gz{α:Type}{V:Ŀ α}{k:Nat}(a:k<V.length)(r:α):(0:Int)<=(k:Int)/\(V.set k r)[(k:Int).toNat]?=some r:=⟨ŉ,by simp[a]⟩
theorem YX{α:Type}{V:Ŀ α}{k j:Nat}(a:j<V.length)(h:k≠j)(r:α):(0:Int)<=(j:Int)/\(V.set k r)[(j:Int).toNat]?=some V[j]:=⟨ŉ,by simp[h,a]⟩
theorem LK{α:Type}{V:Ŀ α}{k:Nat}(a:k<V.length):V.set k V[k]=V:=ß
theorem Zxs{m:Fin 8->Int}(h:l1 m=true){V:Ŀ (Ŀ Zf)}{k:Nat}(f:k<V.length){z:Zf}(g:V[k]=List.replicate 8 z):(PF (k:Int) m (V,0)).Α (V.set k ((gd m).map Μ)):=by
 have c:((gd m).map Μ).length=(List.replicate 8 z).length:=by rw[ć,LJ,Ĺ]
 refine Cq.Zn 8 (λj s=>s=(V.set k (fb ((gd m).map Μ) (List.replicate 8 z) j),(j:Int))) (λj s e d=>?_) (λs d=>?_) (by rw[ZvE,<-g,LK f];rfl)
 .subst d;have a:j<(List.replicate 8 z).length:=by rw[Ĺ];exact e
  refine Cq.wp.yes ŉ ⟨⟨ŉ,ŉ⟩,Μ (Ζ m (j:Int),1),(xO (TW h e)).2,_,Gz f _,_,vp c a,?_⟩;show _=_;rw[ψ ŉ,Ē,Ē,List.set_set,<-AW c a];congr 3;simp[gd]
 subst d;refine Cq.wp.no ĳ ?_;show _=_;rw[Fb c (by rw[ć,LJ];exact ĉ _)]
theorem ZtW{o:Ord}(i:o.length<=100)(h:o.all l1=true){z:Zf}:(PY o (List.replicate o.length (List.replicate 8 z),0)).Α (gB (o.map gd)):=by
 rw[Ć]at h;have d:(gB (o.map gd)).length=(List.replicate o.length (List.replicate 8 z)).length:=by unfold gB;rw[List.length_map,List.length_map,List.length_replicate]
 refine Cq.Zn o.length (λk s=>s=(fb (gB (o.map gd)) (List.replicate o.length (List.replicate 8 z)) k,(k:Int))) (λk s f e=>?_) (λs e=>?_) rfl
 .subst e;have a:k<(List.replicate o.length (List.replicate 8 z)).length:=by rw[Ĺ];exact f
  have c:k<(fb (gB (o.map gd)) (List.replicate o.length (List.replicate 8 z)) k).length:=by rw[Sv d];exact a
  have g:(fb (gB (o.map gd)) (List.replicate o.length (List.replicate 8 z)) k)[k]=List.replicate 8 z:=by have:=Ly d a;rw[ą c]at this;rw[ŧ this,List.getElem_replicate]
  refine Cq.wp.yes ŉ ⟨_,Λ f,Cq.eT (Zxs (h _ (Ă _)) c g) ?_⟩;show _=_;rw[ψ ŉ,<-AW d a];congr 3;simp[gB]
 subst e;refine Cq.wp.no ŉ ?_;show _=_;rw[Fb d (by rw[d,Ĺ];exact ĉ _)]
def ft(i:Nat):Mq->Nat
 |[]=>0
 |r::l=>if(r.getD i (0,1)).1=0 then ft i l+1 else 0
theorem LA(i:Nat):∀l:Mq,ft i l<=l.length
 |[]=>ĉ _
 |x::l=>by have:=LA i l;unfold ft;split<;>simp only[ě]<;>omega
theorem TI{i:Nat}:∀{l:Mq}{n:Nat}(h:n<l.length),n<ft i l->(l[n].getD i (0,1)).1=0
 |x::l,0,_,h=>by
  unfold ft at h;split at h
  .assumption
  omega
 |x::l,n+1,a,h=>by
  unfold ft at h;split at h
  .exact TI (l:=l) (by simpa using a) ŉ
  omega
theorem TJ{i:Nat}:∀{l:Mq}(h:ft i l<l.length),(l[ft i l].getD i (0,1)).1≠0
 |x::l,h=>by
  by_cases a:(x.getD i (0,1)).1=0
  .have e:ft i (x::l)=ft i l+1:=ă a;simp only[e,aac];exact TJ (l:=l) (by rw[e]at h;simpa using h)
  have e:ft i (x::l)=0:=ā a;simp only[e,dU];exact a
def n4(V:Mq):Bool:=V.all λr=>decide (r.length=8)&&r.all jP
theorem Zxv{V:Mq}(h:n4 V=true){r:Ŀ Qn}(hr:r∈V):r.length=8/\∀x∈r,jP x=true:=by have:=Ć.1 h r hr;rw[Ċ,Ć]at this;exact⟨ĥ this.1,this.2⟩
theorem qd{r:Ŀ Qn}{i:Nat}(h:i<r.length):r.getD i (0,1)=r[i]:=by rw[Ģ,ą h];rfl
theorem Zxl{V:Mq}(n:V.length<=100)(h:n4 V=true){i:Nat}(hi:i<8):(ZO (gB V) (i:Int)).Α (if ft i V=V.length then -1 else(ft i V:Int)):=by
 have l:=LA i V;have d:(gB V).length=V.length:=ć _;have g:∀k (c:k<V.length),(J4 (V[k].map Μ) (i:Int)).Α (decide (¬pq (V[k].getD i (0,1))=0)):=λk c=>by obtain⟨p,m⟩:=Zxv h (Ă c);have yd:i<V[k].length:=ŉ;rw[qd yd];exact⟨_,uo yd,_,(MB (m _ (Ă _))).2,rfl⟩
 show(Cq.next _ _).wp _;refine Cq.Zn (ft i V) (λk s=>s=(k:Int)) (λk s c f=>?_) (λs f=>?_) rfl
 .subst f;refine Cq.wp.yes (by rw[d];omega) ⟨V[k].map Μ,⟨ŉ,by simp[gB,show k<V.length by omega]⟩,_,g k ŉ,Cq.wp.no (by rw[FI.2 (TI ŉ c)];decide) ?_⟩;show _=_;rw[ψ ŉ]
 subst f;by_cases j:ft i V=V.length
 .rw[ă j];exact Cq.wp.no (by rw[d];omega) rfl
 rw[ā j];have a:ft i V<V.length:=ŉ;exact Cq.wp.yes (by rw[d];omega) ⟨V[ft i V].map Μ,⟨ŉ,by simp[gB,a]⟩,_,g _ a,Cq.wp.yes (Ą λe=>TJ a (FI.1 e)) rfl⟩
def jk(row rr:Ŀ Qn)(i:Nat):Ŀ Qn:=row.take i++List.zipWith (λx y=>mN x (hN (hN (row.getD i (0,1)) (kn (rr.getD i (0,1)))) y)) (row.drop i) (rr.drop i)
def nt(row rr:Ŀ Qn)(i:Nat):Bool:=decide (row.length=8)&&decide (rr.length=8)&&row.all jP&&rr.all jP&&decide ((rr.getD i (0,1)).1≠0)&&jP (hN (row.getD i (0,1)) (kn (rr.getD i (0,1))))&&(rr.drop i).all λy=>jP (hN (hN (row.getD i (0,1)) (kn (rr.getD i (0,1)))) y)
theorem Fz{row rr:Ŀ Qn}{i:Nat}(a:row.length=8)(h2:rr.length=8):(jk row rr i).length=8:=by unfold jk;rw[Ā,č,List.length_zipWith,ľ,ľ];omega
theorem Zyz{row rr:Ŀ Qn}{i j:Nat}(a:row.length=8)(h2:rr.length=8)(hi:i<=j)(d:j<8):(jk row rr i)[j]'(by rw[Fz a h2];exact d)=mN row[j] (hN (hN (row.getD i (0,1)) (kn (rr.getD i (0,1)))) rr[j]):=by
 have c:(jk row rr i)[j]?=some (mN row[j] (hN (hN (row.getD i (0,1)) (kn (rr.getD i (0,1)))) rr[j])):=by unfold jk;rw[ģ (by rw[č];omega),č,List.getElem?_zipWith,Ũ,Ũ,show i+(j-min i row.length)=j by omega,ą ŉ,ą ŉ]
 rw[ą (by rw[Fz a h2];exact d)]at c;exact ŧ c
theorem ZwI{V:Ŀ (Ŀ Zf)}{r k i:Nat}{row rr:Ŀ Qn}{e:Int}(j:k<V.length)(hr:r<V.length)(l:k≠r)(hi:i<8)(p:V[k]=row.map Μ)(h2:V[r]=rr.map Μ)(h:nt row rr i=true):
  (PX (r:Int) (k:Int) (Μ (hN (row.getD i (0,1)) (kn (rr.getD i (0,1)))),e) (V,(i:Int))).Α (V.set k ((jk row rr i).map Μ)):=by
 unfold nt at h
 simp only[Ċ,ę,Ć]at h
 obtain⟨⟨⟨⟨⟨⟨c,n⟩,u⟩,q4⟩,q5⟩,v⟩,x⟩:=h
 have a:((jk row rr i).map Μ).length=(row.map Μ).length:=by rw[ć,ć,Fz c n,c]
 have d:fb ((jk row rr i).map Μ) (row.map Μ) i=row.map Μ:=by unfold fb jk;rw[Ī,aaT (by rw[ć,č];omega),List.map_take,List.take_take,Nat.min_self,Ń]
 refine Cq.Zn (8-i) (λt s=>s=(V.set k (fb ((jk row rr i).map Μ) (row.map Μ) (i+t)),((i+t:Nat):Int))) (λt s y m=>?_) (λs m=>?_) (by rw[ew,d,<-p,LK j])
 .subst m
  have f:i+t<(row.map Μ).length:=by rw[ć];omega
  have g:i+t<rr.length:=ŉ
  have q:rr[i+t]∈rr.drop i:=by rw[ķ];exact⟨t,by rw[ľ];omega,by rw[List.getElem_drop]⟩
  refine Cq.wp.yes ŉ ⟨_,Gz j _,_,vp a f,V[r],YX hr l _,Μ rr[i+t],by rw[h2];exact uo g,_,ZB4 v (q4 _ (Ă _)),Μ (mN row[i+t] (hN (hN (row.getD i (0,1)) (kn (rr.getD i (0,1)))) rr[i+t])),?_,_,Gz j _,_,vp a f,?_⟩
  .rw[Ş]
   exact ZB5 (u _ (Ă _)) (x _ q)
  show _=_
  rw[ψ ŉ,Ē,Ē,List.set_set,<-Ţ,<-AW a f]
  congr 3
  rw[Ş,Zyz c n ŉ ŉ]
 subst m
 refine Cq.wp.no ŉ ?_
 show _=_
 rw[Fb a (by rw[ć,Fz c n];omega)]
theorem y9(V:Mq):(gB V).length=V.length:=ć _
theorem zw{V:Mq}{k:Nat}(a:k<V.length):(0:Int)<=(k:Int)/\(gB V)[(k:Int).toNat]?=some (V[k].map Μ):=⟨ŉ,by simp[gB,a]⟩
theorem L6(V:Mq)(k:Nat)(r:Ŀ Qn):(gB V).set k (r.map Μ)=gB (V.set k r):=by unfold gB;rw[List.map_set]
theorem getDM{V:Mq}{k:Nat}(h:k<V.length):V.getD k []=V[k]:=by rw[Ģ,ą h];rfl
def fM(M:Mq)(r i:Nat):Nat->Mq
 |0=>M
 |t+1=>(fM M r i t).set (r+1+t) (jk ((fM M r i t).getD (r+1+t) []) ((fM M r i t).getD r []) i)
def n1(M:Mq)(r i:Nat):Bool:=(List.range (M.length-(r+1))).all λt=>nt ((fM M r i t).getD (r+1+t) []) ((fM M r i t).getD r []) i
theorem KO(M:Mq)(r i:Nat):∀t,(fM M r i t).length=M.length
 |0=>rfl
 |t+1=>by have:=KO M r i t;unfold fM;rw[Ř,this]
theorem ZtR{M:Mq}{r i:Nat}(q:M.length<=100)(hr:r<M.length)(hi:i<8)(h:n1 M r i=true):
  (PW (r:Int) (i:Int) (gB M,((r+1:Nat):Int))).Α (gB (fM M r i (M.length-(r+1)))):=by
 refine Cq.Zn (M.length-(r+1)) (λt s=>s=(gB (fM M r i t),((r+1+t:Nat):Int))) (λt s m f=>?_) (λs f=>?_) rfl
 .subst f
  have c:=Ć.1 h t (ĺ.2 m)
  have j:fM M r i (t+1)=(fM M r i t).set (r+1+t) (jk ((fM M r i t).getD (r+1+t) []) ((fM M r i t).getD r []) i):=rfl
  have p:=KO M r i t
  generalize fM M r i t=X at *
  have d:r+1+t<X.length:=ŉ
  have a:r<X.length:=ŉ
  rw[getDM d,getDM a]at c j
  have oy:=c
  unfold nt at oy
  simp only[Ċ,ę,Ć]at oy
  obtain⟨⟨⟨⟨⟨⟨u,v⟩,n⟩,q4⟩,q5⟩,x⟩,y⟩:=oy
  have l:i<X[r+1+t].length:=ŉ
  have g:i<X[r].length:=ŉ
  have hp:=ZwI (V:=gB X) (e:=0) (r:=r) (k:=r+1+t) (i:=i) (row:=X[r+1+t]) (rr:=X[r]) (by rw[y9];exact d) (by rw[y9];exact a) ŉ hi (by simp[gB]) (by simp[gB]) c
  rw[qd l,qd g]at hp
  rw[qd g]at q5
  refine Cq.wp.yes (by rw[y9];omega) ⟨_,zw d,_,uo l,_,zw a,_,uo g,_,ZB7 (n _ (Ă _)) (q4 _ (Ă _)) q5,Cq.eT hp ?_⟩
  show _=_
  rw[ψ ŉ,L6,j]
  rfl
 subst f
 refine Cq.wp.no (by rw[y9,KO];omega) ?_
 rfl
def ko(M:Mq)(r f:Nat):Mq:=(M.set r (M.getD (r+f) [])).set (r+f) (M.getD r [])
def qA(s:Mq×Nat)(i:Nat):Mq×Nat:=if ft i (s.1.drop s.2)=(s.1.drop s.2).length then s else(fM (ko s.1 s.2 (ft i (s.1.drop s.2))) s.2 i (s.1.length-(s.2+1)),s.2+1)
def td(s:Mq×Nat)(i:Nat):Bool:=n4 s.1&&decide (s.2<=s.1.length)&&decide (s.1.length<=100)&&(decide (ft i (s.1.drop s.2)=(s.1.drop s.2).length) || n1 (ko s.1 s.2 (ft i (s.1.drop s.2))) s.2 i)
def kF(M:Mq):Nat->Mq×Nat
 |0=>(M,0)
 |i+1=>qA (kF M i) i
def qq(M:Mq):Bool:=(List.range 8).all λi=>td (kF M i) i
theorem ZvQ{V:Mq}(h:n4 V=true)(k:Nat):n4 (V.drop k)=true:=Ć.2 λr hr=>Ć.1 h r (List.mem_of_mem_drop hr)
theorem Zwl{o:Ord}(x:o.length<=100)(v:o.all l1=true)(h:qq (o.map gd)=true):(Fe o).Α ((kF (o.map gd) 8).2:Int):=by
 refine⟨⟨ŉ,ŉ⟩,?_⟩;rw[Ē];refine Cq.eT (ZtW x v) ?_;show(Cq.next _ _).wp _;generalize o.map gd=M at h;refine Cq.Zn 8 (λi s=>s=(gB (kF M i).1,((kF M i).2:Int),(i:Int))) (λi s hi d=>?_) (λs d=>?_) rfl
 .subst d;have k:=Ć.1 h i (ĺ.2 hi);have t:kF M (i+1)=qA (kF M i) i:=rfl;rw[t];generalize kF M i=S at *;obtain⟨X,r⟩:=S;unfold td at k;simp only[Ċ,ę]at k;obtain⟨⟨⟨n,h2⟩,h3⟩,g⟩:=k;dsimp only at n h2 h3 g⊢;have q:=Zxl (V:=X.drop r) (by rw[ľ];omega) (ZvQ n r) hi;have u:gB (X.drop r)=(gB X).drop r:=by unfold gB;rw[List.map_drop]
  rw[u]at q;have l:=LA i (X.drop r);refine Cq.wp.yes ŉ ⟨⟨ŉ,by rw[y9];omega⟩,_,by rw[Ē];exact q,?_⟩;by_cases c:ft i (X.drop r)=(X.drop r).length
  .rw[ă c];refine Cq.wp.yes ĳ ?_;show _=_;rw[ψ ŉ];have j:qA (X,r) i=(X,r):=ă c;rw[j]
  rw[ā c];have j:qA (X,r) i=(fM (ko X r (ft i (X.drop r))) r i (X.length-(r+1)),r+1):=ā c;rw[Ĵ,ę]at g;have g:=g.resolve_left c;rw[ľ]at l c;generalize ft i (X.drop r)=f at *;have a:r+f<X.length:=ŉ;have hr:r<X.length:=ŉ;have y:i64.wrap ((r:Int)+(f:Int))=((r+f:Nat):Int):=by rw[wrap64 ŉ];omega
  have d:ko X r f=(X.set r X[r+f]).set (r+f) X[r]:=by unfold ko;rw[getDM a,getDM hr]
  have m:(ko X r f).length=X.length:=by rw[d,Ř,Ř]
  have p:=ZtR (M:=ko X r f) (r:=r) (i:=i) ŉ ŉ hi g;rw[m]at p;refine Cq.wp.no ŉ ?_;rw[y];refine⟨_,zw a,_,zw hr,_,zw hr,(if r=r+f then X[r+f].map Μ else X[r+f].map Μ),⟨ŉ,?_⟩,?_⟩
  .rw[Ē,Ē,aag];by_cases e:r=r+f
   .rw[ă e,ă (by rw[y9];exact hr),ă e]
   rw[ā e,ā e];have:=(zw a).2;rwa [Ē]at this
  rw[Ē,Ē,L6,L6,<-d,ψ ŉ];refine Cq.eT p ?_;show _=_;rw[ψ ŉ,ψ ŉ,j]
 subst d;exact Cq.wp.no ĳ rfl
end Go.EL

namespace Go.EL
open Go.IntKind (i8 i16 i32 i64 u8 u16 u32 u64)
open Go Go.RowKit
theorem gH.b{n:Nat}{π:M}(h:gH n π):jG n π=true:=by unfold jG;simp only[Ċ,ę];exact⟨⟨h.perm.oC,h.perm.inj⟩,h.fix⟩
theorem S2(π:M):à π []=[]:=rfl
theorem ZyT{n:Nat}(a:1<=n/\n<=4){p:Ö}(hp:ω p):à (λi=>(i.val:Int)) p=p:=by
 have hi:=(YN a).perm;refine KX hi hp.ord hp.ord (abI ?_);refine((ŭ λt _=>?_).trans (List.map_id _)).symm;show jn _ t=t;unfold jn;have:fB (λi:Fin 8=>(i.val:Int)) t.m=t.m:=by funext j;exact ui hi _ j j rfl
 rw[this]
end Go.EL

namespace Go.EL
open Go.IntKind (i8 i16 i32 i64 u8 u16 u32 u64)
open Go Go.RowKit
def pk(m:Nat):Fin 8->Int:=λi=>if m.testBit i.val then 1 else 0
def jo(k:Nat)(w:Int):Fin 8->Int:=λi=>if i.val=k then w else 0
def pj:Ord:=[pk 255,jo 7 (-1),jo 6 (-1),jo 5 (-1),jo 4 (-1),jo 3 (-1),jo 2 (-1),jo 1 (-1)]
def gV:Ord:=(List.range 8).map λk=>jo k 1
def OH:Ord:=[λi=>if i.val=0 then 2 else if i.val=1 then 3 else 1]
def OI:Ord:=[λi=>if i.val<2 then 1 else 0,λi=>if i.val=0 then 1 else if i.val=1 then 0 else if i.val=2 then 2 else 1]
def l5(k:Nat):Ord:=match k % 8 with
 |0=>[]
 |1=>[pk 255]
 |2=>pj
 |3=>pj
 |4=>OH
 |5=>OI
 |_=>pk (k / 8 % 16)::pj
theorem UY:ES.Α pj:=Zs (n:=20) (by decide +kernel)
theorem TE:(á 0 15 λm=>runs 20 (Jt m) (pk m.toNat::pj))=true:=by decide +kernel
theorem ZvI:Fj.Α [pk 255]:=Zs (n:=5) (by decide +kernel)
theorem ZBI:([ζ (ζ (ζ (ζ (ζ (ζ (ζ (ζ (λ_=>0) 0 2) 1 3) 2 1) 3 1) 4 1) 5 1) 6 1) 7 1]:Ord)=OH:=by decide +kernel
theorem ZBJ:([ζ (ζ (ζ (ζ (ζ (ζ (ζ (ζ (λ_=>0) 0 1) 1 1) 2 0) 3 0) 4 0) 5 0) 6 0) 7 0,ζ (ζ (ζ (ζ (ζ (ζ (ζ (ζ (λ_=>0) 0 1) 1 0) 2 2) 3 1) 4 1) 5 1) 6 1) 7 1]:Ord)=OI:=by decide +kernel
theorem TU{k:Nat}(h:k<=255):(xw (k:Int)).Α (l5 k):=by
 have f:Int.tmod (k:Int) 8=((k % 8:Nat):Int):=rfl;have a:Int.tmod (u8.wrap (Int.tdiv (k:Int) 8)) 16=((k / 8 % 16:Nat):Int):=by have c:Int.tdiv (k:Int) 8=((k / 8:Nat):Int):=rfl;rw[c,H3,show((k / 8:Nat):Int) % 256=((k / 8:Nat):Int) by omega];rfl
 have d:=aad k (show 0<8 by decide);have e:=aad (k / 8) (show 0<16 by decide);unfold xw ET l5;rw[f];generalize g:k % 8=j at *;match j,d with
 |0,_=>exact Cq.wp.yes rfl ⟨_,rfl,rfl⟩
 |1,_=>exact Cq.wp.no ĳ (Cq.wp.yes rfl ⟨_,ZvI,rfl⟩)
 |2,_=>exact Cq.wp.no ĳ (Cq.wp.no ĳ (Cq.wp.yes rfl (Cq.wp.yes rfl ⟨_,UY,rfl⟩)))
 |3,_=>exact Cq.wp.no ĳ (Cq.wp.no ĳ (Cq.wp.no ĳ (Cq.wp.yes rfl ⟨_,UY,rfl⟩)))
 |4,_=>
  refine Cq.wp.no ĳ (Cq.wp.no ĳ (Cq.wp.no ĳ (Cq.wp.no ĳ ?_)));exact Cq.wp.yes rfl ZBI
 |5,_=>
  refine Cq.wp.no ĳ (Cq.wp.no ĳ (Cq.wp.no ĳ (Cq.wp.no ĳ ?_)));exact Cq.wp.no ĳ (Cq.wp.yes rfl ZBJ)
 |6,_=>
  refine Cq.wp.no ĳ (Cq.wp.no ĳ (Cq.wp.no ĳ (Cq.wp.no ĳ ?_)));rw[a];exact Cq.wp.no ĳ (Cq.wp.no ĳ ⟨_,Zs (Zr TE ŉ ŉ),rfl⟩)
 |7,_=>
  refine Cq.wp.no ĳ (Cq.wp.no ĳ (Cq.wp.no ĳ (Cq.wp.no ĳ ?_)));rw[a];exact Cq.wp.no ĳ (Cq.wp.no ĳ ⟨_,Zs (Zr TE ŉ ŉ),rfl⟩)
def kV:Ŀ Ord:=[[],[pk 255],pj,OH,OI]++(List.range 16).map λm=>pk m::pj
theorem T2{k:Nat}:l5 k∈kV:=by
 unfold l5;have h2:=aad (k / 8) (show 0<16 by decide);unfold kV;rw[Ĩ];split
 .exact .inl ß
 .exact .inl ß
 .exact .inl ß
 .exact .inl ß
 .exact .inl ß
 .exact .inl ß
 exact .inr (ğ.2 ⟨_,ĺ.2 h2,rfl⟩)
def eM(o:Ord):Ord:=if(ó o o.length).length=8 then o else o++gV
def Þ(π:Fin 8->Int)(o:Ord):Ord:=o.map (fB π)
def sm(o:Ord)(k:Fin 8):Bool:=match(o.map λm=>m k).find? λx=>x != 0 with
 |some x=>decide (0<x)
 |none=>true
def mJ(o:Ord):Bool:=o.all l1&&decide (o.length<=24)&&decide (∀k,sm o k=true)&&sU o&&qq (o.map gd)&&decide ((kF (o.map gd) 8).2=(ó o o.length).length)
theorem ZAx:(kV.all λo=>mJ o&&decide ((ó o o.length).length=8\/o.length<=16))=true:=by decide +kernel
end Go.EL

namespace Go.EL
open Go.IntKind (i8 i16 i32 i64 u8 u16 u32 u64)
open Go Go.RowKit
def sP(o:Ord):Bool:=mJ o&&Nat.beq (ó o o.length).length 8
def n9(k:Nat):Bool:=((kV.drop (3*k)).take 3).all λo=>(Β 3).all λπ=>sP (Þ π (eM o))
theorem C1:n9 0=true:=by decide +kernel
theorem C2:n9 1=true:=by decide +kernel
theorem C3:n9 2=true:=by decide +kernel
theorem C4:n9 3=true:=by decide +kernel
theorem C5:n9 4=true:=by decide +kernel
theorem C6:n9 5=true:=by decide +kernel
theorem C7:n9 6=true:=by decide +kernel
theorem l7{α:Type}{l:Ŀ α}{p:α->Prop}(k:Nat)(h:∀x∈(l.drop (3*k)).take 3,p x)(h2:∀x∈l.drop (3*(k+1)),p x):∀x∈l.drop (3*k),p x:=λx a=>by
 rw[<-Ń 3 (l.drop (3*k)),Ĩ]at a;rcases a with a|a
 .exact h x a
 rw[abS]at a;exact h2 x a
theorem xM{k:Nat}(h:n9 k=true):∀o∈(kV.drop (3*k)).take 3,∀π∈Β 3,sP (Þ π (eM o))=true:=λo c π a=>Ć.1 (Ć.1 h o c) π a
theorem Un:∀o∈kV,∀π∈Β 3,sP (Þ π (eM o))=true:=
 l7 0 (xM C1)<|l7 1 (xM C2)<|l7 2 (xM C3)<|l7 3 (xM C4)<|l7 4 (xM C5)<|l7 5 (xM C6)<|l7 6 (xM C7) λo a=>by
  have e:kV.drop 21=[]:=by decide +kernel
  have a:o∈kV.drop 21:=a;rw[e]at a;cases a
end Go.EL

namespace Go.EL
open Go.IntKind (i8 i16 i32 i64 u8 u16 u32 u64)
open Go Go.RowKit
def gm(l:Ŀ Int):Int:=match l.find? λx=>x != 0 with
 |some x=>x
 |none=>0
theorem QT(l:Ŀ Int)(x:Int):gm (l++[x])=if gm l=0 then x else gm l:=by
 unfold gm;rw[abo];cases h:l.find? λx=>x != 0 with
 |none=>
  simp only[Option.none_or];rw[ă trivial];by_cases a:x=0
  .subst a;rfl
  rw[List.find?_cons_of_pos (by simpa using a)]
 |some y=>
  have:=aan h;simp only[Option.some_or];rw[ā (by simpa using this)]
theorem ZtQ{o:Ord}{k:Fin 8}(h:sm o k=true):0<=gm (o.map λm=>m k):=by
 unfold sm at h;unfold gm;cases a:(o.map λm=>m k).find? λx=>x != 0 with
 |some x=>
  rw[a]at h;have:=ĥ h;dsimp only;omega
 |none=>exact ŋ _
theorem ZvG{l m:Ŀ Int}(h:0<=gm (l++m)):0<=gm l:=by
 unfold gm at h⊢;rw[abo]at h;cases a:l.find? λx=>x != 0 with
 |none=>exact ŋ _
 |some y=>rw[a]at h;exact h
structure kJ (o:Ord):Prop where
 row:∀m∈o,∀k,-1<=m k/\m k<=3
 len:o.length<=24
 Wa:∀k:Fin 8,0<=gm (o.map λm=>m k)
theorem kJ.of{o:Ord}(h:mJ o=true):kJ o:=by unfold mJ at h;simp only[Ċ,ę,Ć]at h;obtain⟨⟨⟨⟨⟨a,h2⟩,h3⟩,_⟩,_⟩,_⟩:=h;exact⟨λm c k=>ĥ (a m c) k,h2,λk=>ZtQ (h3 k)⟩
theorem P0{o:Ord}{i:Nat}(hi:i<o.length)(f:(Fin 8->Int)->Int):(o.take (i+1)).map f=(o.take i).map f++[f o[i]]:=by rw[Ĉ hi,Ī];rfl
theorem EX{o:Ord}(h:kJ o):(y4 o).Α true:=by
 have g:=h.len;refine Cq.wp.no ŉ ?_;show(Cq.next _ _).wp _;refine Cq.Zn 8 (λk s=>s=(k:Int)) (λk s a c=>?_) (λs c=>?_) rfl
 .subst c;refine Cq.wp.yes ŉ ?_;show(Cq.next _ _).wp _;refine Cq.Zn o.length (λi s=>s=(gm ((o.take i).map λm=>m ⟨k,a⟩),(i:Int))) (λi s hi c=>?_) (λs c=>?_) rfl
  .subst c;have hr:=h.row _ (Ă hi) ⟨k,a⟩;have f:Ζ o[i] (k:Int)=o[i] ⟨k,a⟩:=Ó a;refine Cq.wp.yes ŉ ⟨_,Λ hi,⟨ŉ,ŉ⟩,Cq.wp.no (by rw[f];omega) ⟨_,Λ hi,⟨ŉ,ŉ⟩,Cq.wp.no (by rw[f];omega) ?_⟩⟩;have e:=QT ((o.take i).map λm=>m ⟨k,a⟩) (o[i] ⟨k,a⟩);rw[<-P0 hi (λm=>m ⟨k,a⟩)]at e;by_cases d:gm ((o.take i).map λm=>m ⟨k,a⟩)=0
   .refine Cq.wp.yes d ⟨_,Λ hi,⟨ŉ,ŉ⟩,?_⟩;show _=_;rw[ψ ŉ,f,e,ă d]
   refine Cq.wp.no d ?_;show _=_;rw[ψ ŉ,e,ā d]
  subst c;refine Cq.wp.no ŉ ?_;have:=h.Wa ⟨k,a⟩;rw[Ĥ];refine Cq.wp.no ŉ ?_;show _=_;rw[ψ ŉ]
 subst c;exact Cq.wp.no ĳ rfl
def s7(l:Ord):Fin 8->Bool:=λk=>l.any λm=>decide (¬m k=0)
def jH(b:Fin 8->Bool)(m:Fin 8->Int)(n:Nat):Fin 8->Bool:=λk=>if k.val<n then b k || decide (¬m k=0)else b k
theorem Ce{f:Fin 8->Bool}{k:Nat}(a:k<8):Ζ f (k:Int)=f ⟨k,a⟩:=zv f (by rw[Ē];exact a)
theorem Zwa{b:Fin 8->Bool}{m:Fin 8->Int}{n:Nat}(a:n<8):ζ (jH b m n) n (b ⟨n,a⟩ || decide (¬m ⟨n,a⟩=0))=jH b m (n+1):=by
 funext k;unfold ζ jH;by_cases e:k.val=n
 .have:k=⟨n,a⟩:=abl e;subst this;rw[ă rfl,ă (ů _)]
 rw[ā e];by_cases h:k.val<n
 .rw[ă h,ă ŉ]
 rw[ā h,ā ŉ]
theorem Zza{m:Fin 8->Int}{b:Fin 8->Bool}(h:∀k,-1<=m k/\m k<=3)(j:∀k,m k<0->b k=true):(PU m (0,b)).Α (.inr (jH b m 8)):=by
 refine Cq.Zn 8 (λk s=>s=((k:Int),jH b m k)) (λk s c d=>?_) (λs d=>?_) (by show _=_;congr 1)
 .subst d;have hr:=h ⟨k,c⟩;have f:Ζ m (k:Int)=m ⟨k,c⟩:=Ó c;have d:Ζ (jH b m k) (k:Int)=b ⟨k,c⟩:=by rw[Ce c];unfold jH;rw[if_neg (Nat.lt_irrefl _)]
  have i:(El m (k:Int) (jH b m k)).wp (Out (λs'=>s'=(((k+1:Nat):Int),jH b m (k+1))) λo=>o=.inr (jH b m 8)):=by
   refine⟨⟨ŉ,ŉ⟩,?_⟩;have e:=Zwa (b:=b) (m:=m) c;by_cases a:b ⟨k,c⟩=true
   .refine Cq.wp.yes (by rw[d];exact a) ⟨⟨ŉ,ŉ⟩,?_⟩;show _=_;rw[ψ ŉ,<-e,a];rfl
   refine Cq.wp.no (by rw[d];exact a) ⟨⟨ŉ,ŉ⟩,?_⟩;show _=_;rw[ψ ŉ,<-e,Ź.2 a,f];rfl
  refine Cq.wp.yes ŉ ⟨⟨ŉ,ŉ⟩,Cq.wp.no (by rw[f];omega) (Cq.wp.no (by rw[f];omega) ?_)⟩;by_cases g:m ⟨k,c⟩<0
  .refine Cq.wp.yes (by rw[f];exact g) ⟨⟨ŉ,ŉ⟩,Cq.wp.no (by rw[d,j _ g];decide) i⟩
  exact Cq.wp.no (by rw[f];exact g) i
 subst d;exact Cq.wp.no ĳ rfl
theorem E5{o:Ord}(h:kJ o):(yK o).Α true:=by
 have l:=h.len;refine Cq.wp.no ŉ ?_;show(Cq.next _ _).wp _;refine Cq.Zn o.length (λi s=>s=((i:Int),s7 (o.take i))) (λi s hi e=>?_) (λs e=>?_) rfl
 .subst e;refine Cq.wp.yes ŉ ⟨_,Λ hi,Cq.eT (Zza (h.row _ (Ă hi)) λk j=>?_) ?_⟩
  .have a:=h.Wa k;rw[<-Ń (i+1) o,Ī]at a;have a:=ZvG a;rw[P0 hi (λm=>m k),QT]at a;by_cases c:gm ((o.take i).map λm=>m k)=0
   .rw[ă c]at a;omega
   unfold s7;rw[ej];unfold gm at c;cases d:((o.take i).map λm=>m k).find? λx=>x != 0 with
   |none=>rw[d]at c;exact absurd rfl c
   |some y=>
    have f:=eu d;have h2:=aan d;obtain⟨m,g,rfl⟩:=ğ.1 f;exact⟨m,g,by simpa using h2⟩
  show _=_;rw[ψ ŉ,Ĉ hi];congr 2;funext k;unfold jH s7;rw[ă k.isLt,List.any_append];simp
 subst e;exact Cq.wp.no ŉ rfl
theorem ZyP:(á 0 7 λk=>runs 20 (KV (u8.wrap (1*2 ^ (min k.toNat u8.bits)))) (jo k.toNat 1))=true:=by decide +kernel
theorem Zzj{k:Nat}(a:k<8):(F1 (k:Int) 1).Α (jo k 1):=⟨⟨ŉ,ŉ⟩,by
 show _=_;funext i;unfold ζ jo;rw[Ē]⟩
theorem Re(o:Ord){k:Nat}(a:k<8):o++gV.take (k+1)=(o++gV.take k)++[jo k 1]:=by
 have c:k<gV.length:=by simpa[gV]using a
 rw[Ĉ c,Đ];simp[gV]
theorem ZxJ{o:Ord}(h:mJ o=true):(Fe o).Α ((ó o o.length).length:Int)/\(F0 o).Α ((ó o o.length).length:Int):=by unfold mJ at h;simp only[Ċ,ę]at h;obtain⟨⟨⟨⟨⟨a,h2⟩,_⟩,c⟩,d⟩,e⟩:=h;exact⟨by have:=Zwl ŉ a d;rwa [e]at this,Zwt ŉ c⟩
theorem Zye{o:Ord}(h:mJ o=true)(j:(ó o o.length).length=8\/o.length<=16):(KU o).Α (eM o,0)/\(LD o).Α (eM o,0):=by
 have i:=kJ.of h;obtain⟨m,n⟩:=ZxJ h;have p:=i.len;have d:([]++o).length<=small:=by rw[ļ];simp only[small];omega
 have l:gV.take 8=gV:=Ę (by simp[gV]);constructor
 .refine⟨_,E5 i,Cq.wp.no ĳ ⟨o,⟨λe=>by rw[e];rfl,d,rfl⟩,_,m,?_⟩⟩;by_cases a:(ó o o.length).length=8
  .refine Cq.wp.yes ŉ ?_;show _=_;unfold eM;rw[ă a]
  have g:=j.resolve_left a;refine Cq.wp.no ŉ (Cq.wp.no (by rw[wrap64 ŉ];omega) ?_);show(Cq.next _ _).wp _;refine Cq.Zn 8 (λk s=>s=(o++gV.take k,(k:Int))) (λk s f c=>?_) (λs c=>?_) (by show _=_;simp)
  .subst c;have:=Zs (Zr ZyP (x:=(k:Int)) ŉ ŉ);refine Cq.wp.yes ŉ ⟨ŉ,_,this,by simp only[Ā,č,ě,Ļ];simp only[small];omega,?_⟩;show _=_;rw[ψ ŉ,Re o f];rfl
  subst c;refine Cq.wp.no ĳ ?_;show _=_;unfold eM;rw[ā a,l]
 refine⟨_,EX i,Cq.wp.no ĳ ⟨d,_,n,?_⟩⟩;by_cases a:(ó o o.length).length=8
 .refine Cq.wp.yes ŉ ?_;show _=_;unfold eM;rw[ă a];rfl
 have g:=j.resolve_left a;refine Cq.wp.no ŉ (Cq.wp.no ŉ ?_);show(Cq.next _ _).wp _;refine Cq.Zn 8 (λk s=>s=(o++gV.take k,(k:Int))) (λk s f c=>?_) (λs c=>?_) (by show _=_;simp)
 .subst c;refine Cq.wp.yes ŉ ⟨_,Zzj f,by simp only[Ā,č,ě,Ļ];simp only[small];omega,?_⟩;show _=_;rw[ψ ŉ,Re o f]
 subst c;refine Cq.wp.no ĳ ?_;show _=_;unfold eM;rw[ā a,l]
theorem Zy0{π:Fin 8->Int}(h:Ë π){V:Ord}{k:Nat}(d:k<V.length)(e:V[k]=λ_=>0)(m:Fin 8->Int):(Pv π (k:Int) m (V,0)).Α (V.set k (fB π m)):=by
 refine Cq.Zn 8 (λj s=>s=(V.set k (ep π m j),(j:Int))) (λj s a c=>?_) (λs c=>?_) (by show _=_;rw[show ep π m 0=V[k]from e.symm,LK d];rfl)
 .subst c;have r:=h.oC ⟨j,a⟩;refine Cq.wp.yes ŉ ⟨⟨ŉ,ŉ⟩,⟨ŉ,ŉ⟩,_,Gz d _,by rw[Ó a];exact r,?_⟩;show _=_;rw[ψ ŉ,Ó a,Ó a,Ē,List.set_set];simp only[ep,Ŷ a]
 subst c;exact Cq.wp.no ĳ rfl
theorem S1{π:Fin 8->Int}(c:Ë π){o:Ord}(h:mJ o=true)(v:(ó o o.length).length=8\/o.length<=16):(J3 o π).Α (Þ π (eM o),0)/\(Kd o π).Α (Þ π (eM o),0):=by
 have t:=kJ.of h;obtain⟨f1,f2⟩:=Zye h v;have x:(eM o).length<=40:=by
  have:=t.len;unfold eM;split
  .omega
  rw[Ā];simp[gV];omega
 generalize eM o=F at *;constructor
 .refine⟨_,E5 t,Cq.wp.no ĳ ?_⟩;show(Cq.next _ _).wp _;refine Cq.Zn 8 (λk s=>∃p:Fin 8->Bool,s=((k:Int),p)/\∀j,p j=true->∃i:Fin 8,i.val<k/\(j.val:Int)=π i) (λk s d a=>?_) (λs a=>?_) ⟨_,rfl,λj f=>by cases f⟩
  .obtain⟨p,rfl,q⟩:=a;have r:=c.oC ⟨k,d⟩;refine Cq.wp.yes ŉ ⟨⟨ŉ,ŉ⟩,?_⟩;rw[Ó d];refine Cq.wp.no ŉ (Cq.wp.no ŉ ⟨r,Cq.wp.no (Gy c d q) ⟨r,?_⟩⟩);rw[ψ ŉ];exact⟨_,rfl,FH c d q⟩
  obtain⟨p,rfl,q⟩:=a;refine Cq.wp.no ĳ ?_;show(Pw o π).wp _;refine⟨_,f1,Cq.wp.no (λe=>e rfl) ⟨⟨ŉ,by show((F.length:Nat):Int)<=1000000;omega⟩,?_⟩⟩;rw[Ē];show(Cq.next _ _).wp _;have n:(Þ π F).length=(List.replicate F.length (λ_:Fin 8=>(0:Int))).length:=by unfold Þ;rw[List.length_map,List.length_replicate]
  refine Cq.Zn F.length (λk s=>s=(fb (Þ π F) (List.replicate F.length (λ_=>0)) k,(k:Int))) (λk s d a=>?_) (λs a=>?_) rfl
  .subst a;have g:k<(List.replicate F.length (λ_:Fin 8=>(0:Int))).length:=by rw[Ĺ];exact d
   have l:k<(fb (Þ π F) (List.replicate F.length (λ_=>0)) k).length:=by rw[Sv n];exact g
   have u:(fb (Þ π F) (List.replicate F.length (λ_=>0)) k)[k]=λ_=>0:=by have:=Ly n g;rw[ą l]at this;rw[ŧ this,List.getElem_replicate]
   refine Cq.wp.yes (by show(k:Int)<((F.length:Nat):Int);omega) ⟨_,Λ d,Cq.eT (Zy0 c l u F[k]) ?_⟩;show _=_;rw[ψ ŉ,<-AW n g];congr 3;simp[Þ]
  subst a;refine Cq.wp.no (by show ¬(F.length:Int)<((F.length:Nat):Int);omega) ?_;show _=_;rw[Fb n (by rw[n,Ĺ];exact ĉ _)]
 refine⟨_,EX t,Cq.wp.no ĳ ⟨_,Zl0 c,Cq.wp.no ĳ ⟨_,f2,Cq.wp.no (λe=>e rfl) ?_⟩⟩⟩;show(Cq.next _ _).wp _;refine Cq.Zn F.length (λk s=>s=(Þ π (F.take k),(k:Int))) (λk s d a=>?_) (λs a=>?_) rfl
 .subst a;have m:(PL π (F,0) (k:Int) (0,λ_=>0)).Α (fB π F[k]):=by
   refine Cq.Zn 8 (λj s=>s=((j:Int),ep π F[k] j)) (λj s f a=>?_) (λs a=>?_) rfl
   .subst a;have r:=c.oC ⟨j,f⟩;refine Cq.wp.yes ŉ ⟨⟨ŉ,ŉ⟩,F[k],Λ d,⟨ŉ,ŉ⟩,by rw[Ó f];exact r,?_⟩;show _=_;rw[ψ ŉ,Ó f,Ó f];simp only[ep,Ŷ f]
   subst a;exact Cq.wp.no ĳ rfl
  refine Cq.wp.yes (by show(k:Int)<((F.length:Nat):Int);omega) (Cq.eT m ⟨by unfold Þ;simp only[List.length_append,List.length_map,List.length_take,List.length_cons,List.length_nil];simp only[small];omega,?_⟩);show _=_;rw[ψ ŉ,Ĉ d];unfold Þ;rw[Ī];rfl
 subst a;refine Cq.wp.no (by show ¬(F.length:Int)<((F.length:Nat):Int);omega) ?_;show _=_;rw[Ĥ]
end Go.EL

namespace Go.EL
open Go.IntKind (i8 i16 i32 i64 u8 u16 u32 u64)
open Go Go.RowKit
theorem ZxE:(((Β 1)++(Β 2)).all λπ=>(Β 3).any λσ=>decide (σ=π))=true:=by decide +kernel
theorem yl{n:Nat}(h:1<=n/\n<=3){π:Fin 8->Int}(a:π∈Β n):π∈Β 3:=by
 have key:∀σ∈Β 1++Β 2,σ∈Β 3:=λσ c=>by obtain⟨τ,d,h2⟩:=ej.1 (Ć.1 ZxE σ c);rw[<-ĥ h2];exact d
 match n,h with
 |1,_=>exact key _ (List.mem_append_left _ a)
 |2,_=>exact key _ (List.mem_append_right _ a)
 |3,_=>exact a
def kd(o:Ord):Prop:=o∈kV\/∃f∈kV,∃π∈Β 3,o=Þ π (eM f)
theorem Sd{o:Ord}(h:sP o=true):mJ o=true/\(ó o o.length).length=8:=by unfold sP at h;rw[Ċ]at h;exact⟨h.1,ĵ h.2⟩
theorem kd.b{o:Ord}(h:kd o):mJ o=true/\((ó o o.length).length=8\/o.length<=16):=by
 rcases h with h|⟨f,d,π,a,rfl⟩
 .have:=Ć.1 ZAx o h;rw[Ċ,ę]at this;exact this
 obtain⟨c,h2⟩:=Sd (Un f d π a);exact⟨c,.inl h2⟩
theorem ZvY{σ τ:Fin 8->Int}(a:σ∈Β 3)(c:τ∈Β 3)(o:Ord):Þ σ (Þ τ o)=Þ (gZ σ τ) o:=by unfold Þ;rw[eF];exact ŭ λm _=>Sg ⟨ĳ,ĳ⟩ a c m
theorem kd.full{o:Ord}(h:kd o):eM (eM o)=eM o/\∀π∈Β 3,kd (Þ π (eM o))/\eM (Þ π (eM o))=Þ π (eM o):=by
 have key:∀f∈kV,∀π∈Β 3,eM (Þ π (eM f))=Þ π (eM f):=λf d π a=>by obtain⟨l,h2⟩:=Sd (Un f d π a);exact ă h2
 have e:(λi:Fin 8=>(i.val:Int))∈Β 3:=by rw[vv];exact aas
 have g:∀o:Ord,Þ (λi=>(i.val:Int)) o=o:=λo=>by unfold Þ;have:∀m∈o,fB (λi=>(i.val:Int)) m=m:=λm _=>funext λj=>ui (oo ⟨ĳ,ĳ⟩ e).perm m j j rfl;rw[ŭ this,abG]
 rcases h with h|⟨f,d,τ,c,rfl⟩
 .refine⟨?_,λπ a=>⟨.inr ⟨o,h,π,a,rfl⟩,key o h π a⟩⟩;have:=key o h _ e;rwa [g]at this
 rw[key f d τ c];refine⟨key f d τ c,λπ a=>?_⟩;rw[ZvY a c];have k:=(mZ (n:=3) ⟨ĳ,ĳ⟩ c).1 π a;exact⟨.inr ⟨f,d,_,k,rfl⟩,key f d _ k⟩
structure fg (q:Ze):Prop where
 p:ω q.p
 o:kd q.o
theorem fg.w{q:Ze}(h:fg q):rT q:=⟨h.p,by have:=(kJ.of h.o.b.1).len;omega⟩
theorem fg.nil(kind:Int):fg ⟨kind,[],[]⟩:=⟨(ω.of ĳ:ω []),.inl (by unfold kV;simp)⟩
theorem FK{p:Ö}{n:Nat}:lG n p↔(ï p).toNat<2 ^ n:=by
 rw[<-yU,Ů];constructor
 .intro h;rcases x6.1 h with h|h
  .have:=aaf n;omega
  exact h
 exact aaO
def fm(k:Zc)(q:Ze):Bool:=decide (1<=q.kind/\q.kind<=10)&&Ï q.p k.n&&(decide (q.kind=1\/q.kind=7\/q.kind=9) || decide (q.p=[]))&&(decide (q.kind=3) || decide (q.o=[]))
theorem Sm(q:Ze):(Ei q).Α (decide (q.kind=1\/q.kind=7\/q.kind=9) || decide (q.p=[])):=by
 have e:decide ((q.p.length:Int)=0)=decide (q.p=[]):=by
  cases q.p with
  |nil=>rfl
  |cons a l=>simp;omega
 by_cases c:q.kind=1
 .exact Cq.wp.yes c (Cq.wp.yes c (by show _=_;rw[Ą (Or.inl c)];rfl))
 by_cases h7:q.kind=7
 .exact Cq.wp.no c (Cq.wp.yes h7 (Cq.wp.yes h7 (by show _=_;rw[Ą (Or.inr (Or.inl h7))];rfl)))
 by_cases d:q.kind=9
 .exact Cq.wp.no c (Cq.wp.no h7 (Cq.wp.yes d (by show _=_;rw[Ą (Or.inr (Or.inr d))];rfl)))
 refine Cq.wp.no c (Cq.wp.no h7 (Cq.wp.no d ?_));show _=_;rw[e,Č (p:=q.kind=1\/_) ŉ,Ľ]
theorem Zv5{q:Ze}(h:fg q):(J9 q).Α ((decide (q.kind=1\/q.kind=7\/q.kind=9) || decide (q.p=[]))&&(decide (q.kind=3) || decide (q.o=[]))):=by
 refine⟨true,E5 (kJ.of h.o.b.1),?_⟩;cases c:q.o with
 |nil=>
  refine Cq.wp.no ĳ ?_;rw[Ą (p:=([]:Ord)=[]) rfl,aa2,abU];exact Sm q
 |cons a l=>
  refine Cq.wp.yes (by rw[ě];omega) ?_;rw[Č (p:=a::l=[]) ß,abV];by_cases h3:q.kind=3
  .refine Cq.wp.no (λe=>e h3) ?_;rw[Ą h3,abU];exact Sm q
  refine Cq.wp.yes h3 ?_;show _=_;rw[Č h3,Bool.and_false]
theorem Ta{k:Zc}(v:1<=k.n/\k.n<=4){q:Ze}(h:fg q):(Fg k q).Α (fm k q):=by
 unfold fm;by_cases i:q.kind<1
 .refine Cq.wp.yes i ?_;show _=_;rw[Č (p:=1<=q.kind/\_) ŉ];rfl
 by_cases c:10<q.kind
 .refine Cq.wp.no i (Cq.wp.yes c ?_);show _=_;rw[Č (p:=1<=q.kind/\_) ŉ];rfl
 rw[Ą (p:=1<=q.kind/\q.kind<=10) ŉ,ť];refine Cq.wp.no i (Cq.wp.no c ⟨true,D5 h.p,_,yM h.p,?_⟩);obtain⟨n,s⟩:∃n:Nat,k.n=(n:Int):=⟨k.n.toNat,ŉ⟩;rw[s]at v⊢;have nP:1<=n/\n<=4:=ŉ;by_cases m:12<gl q.p
 .refine Cq.wp.yes m ?_;show _=_;have:Ï q.p (n:Int)=false:=by
   cases j:Ï q.p (n:Int)with
   |false=>rfl
   |true=>have:=(FB j).2;omega
  rw[this];rfl
 refine Cq.wp.no m ⟨_,FX h.p.len,ŉ,?_⟩;have x:=uj q.p;have d:∀t∈q.p,fK t.m<=12:=(tF ĳ).1 ŉ;have a:(Int.fdiv (ï q.p) (2 ^ (min (n:Int).toNat u8.bits))=0)↔(ï q.p).toNat<2 ^ n:=by
  obtain⟨u,l⟩:∃u:Nat,ï q.p=(u:Int):=⟨(ï q.p).toNat,ŉ⟩;have r:Int.fdiv (ï q.p) (2 ^ (min (n:Int).toNat u8.bits))=((u / 2 ^ n:Nat):Int):=by rw[l,Ē,ż (show n<=u8.bits from ň nP.2 ĳ),aai _ (Int.le_of_lt (Int.pow_pos ĳ))];push_cast;rfl
  rw[r,l,Ē];have hp:=aaf n;constructor
  .intro g;have g:u / 2 ^ n=0:=ŉ;rcases x6.1 g with h|h
   .omega
   exact h
  intro g;rw[aaO g];rfl
 by_cases f:(ï q.p).toNat<2 ^ n
 .refine Cq.wp.no (λe=>e (a.2 f)) ?_;rw[(pI ŉ).2 ⟨FK.2 f,d⟩,ť];exact Zv5 h
 refine Cq.wp.yes (λe=>f (a.1 e)) ?_;show _=_;have:Ï q.p (n:Int)=false:=by
  cases j:Ï q.p (n:Int)with
  |false=>rfl
  |true=>exact absurd (FK.1 ((pI ŉ).1 j).1) f
 rw[this];rfl
end Go.EL

namespace Go.EL
open Go.IntKind (i8 i16 i32 i64 u8 u16 u32 u64)
open Go Go.RowKit
theorem Ls(kind:Int):(Ex kind).Α (decide (kind=1\/kind=7\/kind=9)):=by
 by_cases a:kind=1
 .exact Cq.wp.yes a (by show _=_;rw[Ą (Or.inl a)])
 by_cases h7:kind=7
 .exact Cq.wp.no a (Cq.wp.yes h7 (by show _=_;rw[Ą (Or.inr (Or.inl h7))]))
 refine Cq.wp.no a (Cq.wp.no h7 ?_);show _=_;by_cases c:kind=9
 .rw[Ą c,Ą (p:=kind=1\/_) ŉ]
 rw[Č c,Č (p:=kind=1\/_) ŉ]
theorem ZtK(q:Ze):(JO q).Α ((decide (q.kind=1\/q.kind=7\/q.kind=9) || decide (q.p=[]))&&(decide (q.kind=3) || decide (q.o=[]))):=by
 have key:((if(q.o.length:Int)=0 then Cq.ret true else Cq.ret (decide (q.kind=3))):Cq Bool).Α (decide (q.kind=3) || decide (q.o=[])):=by
  cases c:q.o with
  |nil=>exact Cq.wp.yes rfl (by show _=_;simp)
  |cons a l=>exact Cq.wp.no (by rw[ě];omega) (by show _=_;simp)
 cases hp:q.p with
 |nil=>
  refine Cq.wp.yes (by rw[hp];rfl) ?_;rw[Ą (p:=([]:Ö)=[]) rfl,aa2,ť];exact key
 |cons a l=>
  refine Cq.wp.no (by rw[hp,ě];omega) ⟨_,Ls _,?_⟩;rw[Č (p:=a::l=[]) ß,abV];cases decide (q.kind=1\/q.kind=7\/q.kind=9)with
  |false=>rfl
  |true=>rw[ť];exact key
theorem Zvr{k:Zc}(m:1<=k.n/\k.n<=4){q:Ze}(h:fg q):(K4 k q).Α (fm k q):=by
 unfold fm;by_cases f:q.kind<1
 .refine Cq.wp.yes f ?_;show _=_;rw[Č (p:=1<=q.kind/\_) ŉ];rfl
 by_cases a:10<q.kind
 .refine Cq.wp.no f (Cq.wp.yes a ?_);show _=_;rw[Č (p:=1<=q.kind/\_) ŉ];rfl
 rw[Ą (p:=1<=q.kind/\q.kind<=10) ŉ,ť];refine Cq.wp.no f (Cq.wp.no a ⟨true,Av h.p,_,xa h.p,?_⟩);obtain⟨n,l⟩:∃n:Nat,k.n=(n:Int):=⟨k.n.toNat,ŉ⟩;rw[l]at m⊢;have nP:1<=n/\n<=4:=ŉ;by_cases i:12<gl q.p
 .refine Cq.wp.yes i ?_;show _=_;have:Ï q.p (n:Int)=false:=by
   cases g:Ï q.p (n:Int)with
   |false=>rfl
   |true=>have:=(FB g).2;omega
  rw[this];rfl
 have r:=uj q.p;have c:∀t∈q.p,fK t.m<=12:=(tF ĳ).1 ŉ;have e:u64.wrap (n:Int)=(n:Int):=qO ⟨ŉ,ŉ⟩;have d:i64.wrap (1*2 ^ (min (n:Int).toNat i64.bits))=((2 ^ n:Nat):Int):=by
  match n,nP with
  |1,_=>rfl
  |2,_=>rfl
  |3,_=>rfl
  |4,_=>rfl
 refine Cq.wp.no i ⟨_,Au h.p.len,by rw[e];omega,?_⟩;rw[e,d,wrap64 ŉ];by_cases j:(ï q.p).toNat<2 ^ n
 .refine Cq.wp.no ŉ ⟨true,EX (kJ.of h.o.b.1),Cq.wp.no ĳ ?_⟩;rw[(pI ŉ).2 ⟨FK.2 j,c⟩,ť];exact ZtK q
 refine Cq.wp.yes ŉ ?_;show _=_;have:Ï q.p (n:Int)=false:=by
  cases g:Ï q.p (n:Int)with
  |false=>rfl
  |true=>exact absurd (FK.1 ((pI ŉ).1 g).1) j
 rw[this];rfl
structure eB (k:Zc):Prop where
 ok:ç k
 n3:k.n<=3
theorem eB.nn{k:Zc}(h:eB k):1<=k.n.toNat/\k.n.toNat<=3:=by have:=h.ok.n;have:=h.n3;omega
theorem eB.perm{k:Zc}(h:eB k):(â k).2∈Β k.n.toNat:=by obtain⟨ρ,a,e⟩:=(E7 k).1;rw[e];exact a
theorem eB.nd{k:Zc}(h:eB k):(â k).2∈Β 3:=yl h.nn h.perm
theorem eB.canon{k:Zc}(h:eB k):eB (â k).1:=by refine⟨Zvy h.ok,?_⟩;obtain⟨ρ,a,e⟩:=(E7 k).1;rw[e];show(ý k ρ).n<=3;rw[zj h.ok a];exact h.n3
theorem eB.U9{k:Zc}(h:eB k):(â k).1.n=k.n:=by obtain⟨ρ,a,e⟩:=(E7 k).1;rw[e];show(ý k ρ).n=k.n;rw[zj h.ok a]
def eU(q:Ze)(π:Fin 8->Int):Ze:=⟨q.kind,à π q.p,if q.kind=3 then Þ π (eM q.o)else[]⟩
theorem ja{π:Fin 8->Int}(h:π∈Β 3):Ë π:=(oo ⟨ĳ,ĳ⟩ h).perm
theorem SX{q:Ze}(h:fg q){π:Fin 8->Int}(a:π∈Β 3):fg (eU q π):=by
 refine⟨oJ (ja a) h.p,?_⟩;unfold eU;dsimp only;split
 .exact (h.o.full.2 π a).1
 exact(fg.nil 0).o
theorem Qj{q:Ze}(h:fg q){π:Fin 8->Int}(a:π∈Β 3):(Eo q π).Α (eU q π,0):=by
 refine⟨_,Rf (ja a) h.p,Cq.wp.no (λe=>e rfl) ?_⟩;unfold eU;by_cases h3:q.kind=3
 .refine Cq.wp.yes h3 ⟨_,(S1 (ja a) h.o.b.1 h.o.b.2).1,Cq.wp.no (λe=>e rfl) ?_⟩;show _=_;rw[ă h3]
 refine Cq.wp.no h3 ?_;show _=_;rw[ā h3]
def iA(k:Zc)(q:Ze):ZE:=if fm k q=true then⟨(â k).1,eU q (â k).2,0⟩else⟨iQ,⟨0,[],[]⟩,1⟩
theorem Ru{k:Zc}{q:Ze}(c:eB k)(h:fg q):(Ba k q).Α (iA k q):=by
 have a:=c.nd;refine⟨true,Kz c.ok,_,Zvr c.ok.n h,?_⟩;unfold iA;cases hr:fm k q with
 |false=>exact Cq.wp.yes rfl (by show _=_;rw[ā ĳ];rfl)
 |true=>
  rw[ă rfl];refine Cq.wp.no ĳ ⟨_,Zvk c.ok,_,Jv (ja a) h.p,?_⟩;unfold eU;by_cases h3:q.kind=3
  .refine Cq.wp.yes h3 ⟨_,(S1 (ja a) h.o.b.1 h.o.b.2).2,Cq.wp.no (λe=>e rfl) ?_⟩;show _=_;rw[ă h3]
  refine Cq.wp.no h3 (Cq.wp.no (λe=>e rfl) ?_);show _=_;rw[ā h3]
structure lE (t:Zd):Prop where
 k:jR t.k
 q:rT t.q
def oW(k:Zc)(q:Ze)(t:Zd):Bool:=decide (ø t.k=ø k)&&decide (hW t.q=hW q)
def MP(l:Ŀ Zd)(k:Zc)(q:Ze):Int:=match l.findIdx? (oW k q)with
 |some i=>(i:Int)
 |none=>-1
theorem ZAW{b:Zb}(u:b.t.length<=1000)(h:∀t∈b.t,lE t){k:Zc}{q:Ze}(p:jR k)(r:rT q):(GG b k q).Α (MP b.t k q):=by
 have key:∀(m i:Nat),m+i=b.t.length->(Fw b k q (i:Int)).wp λo=>o=(match(b.t.drop i).findIdx? (oW k q)with|some j=>.inl ((i+j:Nat):Int)|none=>.inr ()):=by
  intro m;induction m with
  |zero=>
   intro i hi;refine Cq.Zt (Cq.wp.no ŉ ?_);rw[Ķ ŉ];rfl
  |succ m s=>
   intro i hi;have c:i<b.t.length:=ŉ;have n:=h _ (Ă c);have l:b.t.drop i=b.t[i]::b.t.drop (i+1):=ĭ c;have a:oW k q b.t[i]=false->(Fw b k q ((i+1:Nat):Int)).wp λo=>o=(match(b.t.drop i).findIdx? (oW k q)with|some j=>.inl ((i+j:Nat):Int)|none=>.inr ()):=λe=>by
    refine Cq.mono _ (λo g=>?_) (s (i+1) ŉ);rw[g,l,List.findIdx?_cons,e];cases(b.t.drop (i+1)).findIdx? (oW k q)with
    |none=>rfl
    |some j=>show Sum.inl ((i+1+j:Nat):Int)=Sum.inl ((i+(j+1):Nat):Int);rw[show i+1+j=i+(j+1) by omega]
   refine Cq.Zt (Cq.wp.yes ŉ ⟨_,Λ c,_,Fx n.k p,?_⟩);cases f:decide (ø b.t[i].k=ø k)with
   |false=>
    show(Cq.loop _ _).wp _;rw[ψ ŉ];exact a (by unfold oW;rw[f];rfl)
   |true=>
    refine⟨_,Λ c,_,SM n.q r,?_⟩;cases d:decide (hW b.t[i].q=hW q)with
    |true=>
     refine Cq.wp.yes rfl ?_;show _=_;rw[l,List.findIdx?_cons,show oW k q b.t[i]=true by unfold oW;rw[f,d];rfl];rfl
    |false=>
     refine Cq.wp.no ĳ ?_;show(Cq.loop _ _).wp _;rw[ψ ŉ];exact a (by unfold oW;rw[f,d];rfl)
 show(Cq.next _ _).wp _;refine Cq.mono (Fw b k q 0) (λo g=>?_) (key b.t.length 0 ŉ);rw[g,abh];unfold MP;cases b.t.findIdx? (oW k q)with
 |none=>rfl
 |some j=>show _=_;rw[Ň]
end Go.EL

namespace Go.EL
open Go.IntKind (i8 i16 i32 i64 u8 u16 u32 u64)
open Go Go.RowKit
abbrev qW:Fin 8->Int:=λi=>(i.val:Int)
theorem ZtP{k:Zc}(h:ç k):â (â k).1=((â k).1,qW):=by
 have l:1<=k.n.toNat/\k.n.toNat<=4:=by have:=h.n;omega
 obtain⟨⟨ρ,d,m⟩,n⟩:=E7 k;have f:(â k).1=ý k ρ:=by rw[m]
 have g:(â k).1.n=k.n:=by rw[f,zj h d]
 have i:qW∈Β k.n.toNat:=by rw[vv];exact aas
 have c:ý (â k).1 qW=(â k).1:=by rw[f,Sf h i d,id_comp l d]
 have j:∀π∈Β k.n.toNat,¬Op.bytesLess (ø (ý (â k).1 π)).toList (ø (â k).1).toList=true:=λπ a=>by rw[show ý (â k).1 π=ý k (gZ π ρ) by rw[f,Sf h a d]];exact n _ ((mZ l d).1 π a)
 have e:â (â k).1=fq (â k).1 (Β (â k).1.n.toNat).tail (ý (â k).1 qW,qW):=rfl;rw[e,c,g];exact SU _ _ _ λπ a=>j π (List.mem_of_mem_tail a)
theorem Ny:qW∈Β 3:=by rw[vv];exact aas
theorem ZyS(o:Ord):Þ qW o=o:=by unfold Þ;have:∀m∈o,fB qW m=m:=λm _=>funext λj=>ui (ja Ny) m j j rfl;rw[ŭ this,abG]
theorem ZpQ{q:Ze}(h:fg q){π:Fin 8->Int}(a:π∈Β 3):eU (eU q π) qW=eU q π:=by
 have hp:=ZyT (n:=3) ⟨ĳ,ĳ⟩ (oJ (ja a) h.p);show Ze.mk q.kind (à qW (à π q.p)) (if q.kind=3 then Þ qW (eM (if q.kind=3 then Þ π (eM q.o)else[]))else[])=Ze.mk q.kind (à π q.p) (if q.kind=3 then Þ π (eM q.o)else[]);rw[hp];by_cases h3:q.kind=3
 .rw[ă h3,ă h3,ZyS,(h.o.full.2 π a).2]
 rw[ā h3,ā h3]
theorem Ln{kind:Int}{x:Ze}(h:x∈ù kind):x=⟨x.kind,[],[]⟩/\(x.kind=4\/x.kind=5\/x.kind=6):=by
 unfold ù at h;split at h
 .rw[Ĕ.1 h];exact⟨rfl,ĳ⟩
 split at h
 .rw[Ĕ.1 h];exact⟨rfl,ĳ⟩
 split at h
 .rw[Ĕ.1 h];exact⟨rfl,ĳ⟩
 cases h
theorem E0{kind:Int}{x:Ze}(h:x∈ù kind)(π:Fin 8->Int):eU x π=x:=by obtain⟨e,a⟩:=Ln h;rw[e];show Ze.mk x.kind (à π []) (if x.kind=3 then _ else[])=_;rw[ā ŉ,S2]
theorem E1{kind:Int}{x:Ze}(h:x∈ù kind){k:Zc}(c:ç k):fm k x=true:=by
 obtain⟨e,g⟩:=Ln h;have f:Ï [] k.n=true:=by obtain⟨n,d⟩:∃n:Nat,k.n=(n:Int):=⟨k.n.toNat,by have:=c.n;omega⟩;have:=c.n;rw[d];exact(pI ŉ).2 ⟨λt a=>(nomatch a),λt a=>(nomatch a)⟩
 rw[e];unfold fm;dsimp only;rw[f,Ą (p:=1<=x.kind/\x.kind<=10) ŉ];simp
theorem LY{kind:Int}{x:Ze}(h:x∈ù kind):fg x:=by rw[(Ln h).1];exact fg.nil _
def wL(k:Zc):Prop:=eB k/\â k=(k,qW)
theorem eB.can{k:Zc}(h:eB k):wL (â k).1:=⟨h.canon,ZtP h.ok⟩
structure iS (k:Zc) (q:Ze):Prop where
 ck:wL k
 cq:fg q
 self:eU q qW=q
 right:fm k q=true
theorem Zw9{k:Zc}(h:eB k){p:Ö}(hp:ω p)(c:Ï p k.n=true):Ï (à (â k).2 p) (â k).1.n=true:=by rw[h.U9];have d:=h.ok.n;obtain⟨n,a⟩:∃n:Nat,k.n=(n:Int):=⟨k.n.toNat,ŉ⟩;rw[a]at c⊢;have:=h.perm;rw[a,Ē]at this;exact Sw ŉ (oo ŉ this) hp c
theorem Zt4{k:Zc}(h:eB k){q:Ze}(e:fg q)(hr:fm k q=true):fm (â k).1 (eU q (â k).2)=true:=by
 unfold fm at hr⊢;simp only[Ċ]at hr⊢;obtain⟨⟨⟨c,h2⟩,h3⟩,d⟩:=hr;refine⟨⟨⟨c,Zw9 h e.p h2⟩,?_⟩,?_⟩
 .rw[Ĵ]at h3⊢;rcases h3 with h3|h3
  .exact .inl h3
  refine .inr (Ą ?_);show à _ q.p=[];rw[ĥ h3,S2]
 rw[Ĵ]at d⊢;by_cases a:q.kind=3
 .exact .inl (Ą a)
 refine .inr (Ą ?_);show(if q.kind=3 then _ else[])=([]:Ord);rw[ā a]
theorem iS.of{k:Zc}(h:eB k){q:Ze}(a:fg q)(hr:fm k q=true):iS (â k).1 (eU q (â k).2):=
 ⟨h.can,SX a h.nd,ZpQ a h.nd,Zt4 h a hr⟩
theorem iS.lW{k:Zc}(h:wL k){kind:Int}{x:Ze}(a:x∈ù kind):iS k x:=⟨h,LY a,E0 a _,E1 a h.1.ok⟩
theorem iS.iA{k:Zc}{q:Ze}(h:iS k q):iA k q=⟨k,q,0⟩:=by unfold EL.iA;rw[ă h.right,h.ck.2,h.self]
theorem T0{k m:Zc}{p q:Ze}(a:ç k)(c:ç m):(ø k=ø m/\hW p=hW q)↔hQ k p=hQ m q:=⟨λh=>by unfold hQ;rw[h.1,h.2],λh=>VX a c h⟩
end Go.EL

namespace Go.EL
open Go.IntKind (i8 i16 i32 i64 u8 u16 u32 u64)
open Go Go.RowKit
abbrev fh(t:Zd):Ĳ:=hQ t.k t.q
structure ä (B:Zb):Prop where
 can:∀t∈B.t,iS t.k t.q
 ids:∀i (h:i<B.t.length),B.t[i].id=(i:Int)+1
 next:B.next=(B.t.length:Int)+1
 Û:B.t.Pairwise λs t=>fh s≠fh t
 lW:∀i (h:i<B.t.length),∀x∈ù B.t[i].q.kind,∃j,∃(h2:j<B.t.length),j<i/\fh B.t[j]=hQ B.t[i].k x
 num:∀t∈B.t,(0<=t.ο/\t.ο<=13)/\0<=t.low/\-1<=t.high
def eS(l:Ŀ Zd)(s:Ĳ):ŀ Zd:=l.find? λt=>decide (fh t=s)
theorem KQ{l:Ŀ Zd}{s:Ĳ}{t:Zd}(h:eS l s=some t):t∈l/\fh t=s:=⟨eu h,by simpa using aan h⟩
theorem RK{l:Ŀ Zd}{s:Ĳ}(h:eS l s=none):∀t∈l,fh t≠s:=λt a e=>by have:=List.find?_eq_none.1 h t a;exact this (Ą e)
theorem ZvF(l:Ŀ Zd)(t:Zd)(s:Ĳ):eS (l++[t]) s=match eS l s with|some u=>some u|none=>if fh t=s then some t else none:=by
 unfold eS;rw[abo];cases l.find? λt=>decide (fh t=s)with
 |some u=>rfl
 |none=>
  simp only[Option.none_or,abJ,List.find?_nil];by_cases h:fh t=s
  .rw[Ą h,ă h]
  rw[Č h,ā h]
def lx(B:Zb)(c:Zc)(q:Ze):Zd:=⟨B.next,c,q,0,0,-1,false⟩
def il(B:Zb)(c:Zc)(q:Ze):Zb×Int:=match eS B.t (hQ c q)with
 |some t=>(B,t.id)
 |none=>(⟨B.t++[lx B c q],B.next+1⟩,B.next)
def ij:Nat->Zb->Zc->Ze->Zb×Int
 |0,B,_,_=>(B,0)
 |n+1,B,c,q=>il ((ù q.kind).foldl (λb x=>(ij n b c x).1) B) c q
def kB(kind:Int):Nat:=if kind=7 then 4 else if kind=6\/kind=10 then 3 else if kind=5\/kind=8 then 2 else 1
theorem vr(kind:Int):(ù kind=[]/\1<=kB kind)\/∃x,ù kind=[x]/\kB x.kind+1<=kB kind:=by
 unfold ù;split
 .refine .inr ⟨_,rfl,?_⟩;rename_i h;rcases h with rfl|rfl<;>decide
 split
 .refine .inr ⟨_,rfl,?_⟩;rename_i h;rcases h with rfl|rfl<;>decide
 split
 .refine .inr ⟨_,rfl,?_⟩;rename_i h;subst h;decide
 refine .inl ⟨rfl,?_⟩;unfold kB;repeat' split
 all_goals decide
structure Grown (B B':Zb) (m:Nat):Prop where
 ok:ä B'
 pre:B.t <+: B'.t
 len:B'.t.length<=B.t.length+m
theorem Ut{B:Zb}(h:ä B){c:Zc}{q:Ze}(p:iS c q)(u:∀x∈ù q.kind,∃t∈B.t,fh t=hQ c x):
  Grown B (il B c q).1 1/\∃t∈(il B c q).1.t,fh t=hQ c q/\t.id=(il B c q).2:=by
 unfold il
 cases k:eS B.t (hQ c q)with
 |some t=>
  obtain⟨m,h2⟩:=KQ k
  exact⟨⟨h,List.prefix_rfl,Nat.le_succ _⟩,t,m,h2,rfl⟩
 |none=>
  have g:=RK k
  have f:(B.t++[lx B c q]).length=B.t.length+1:=by rw[Ā];rfl
  refine⟨⟨⟨λt a=>?_,λi hi=>?_,?_,?_,λi hi x d=>?_,λt a=>?_⟩,List.prefix_append _ _,by rw[f];exact ĉ _⟩,lx B c q,ß,rfl,rfl⟩
  .rcases Ĩ.1 a with a|a
   .exact h.can t a
   rw[Ĕ.1 a];exact p
  .have hi:i<(B.t++[lx B c q]).length:=hi
   rw[f]at hi
   show(B.t++[lx B c q])[i].id=_
   by_cases e:i<B.t.length
   .rw[u1 e];exact h.ids i e
   have:i=B.t.length:=ŉ
   subst this
   rw[abk (ĉ _)]
   simp only[aaC,dU]
   exact h.next
  .show B.next+1=((B.t++[lx B c q]).length:Int)+1
   rw[f,h.next];rfl
  .rw[eG]
   refine⟨h.Û,Ū _ _,λs v t a=>?_⟩
   rw[Ĕ.1 a]
   exact g s v
  .have ki:i<(B.t++[lx B c q]).length:=hi
   rw[f]at ki
   have d:x∈ù ((B.t++[lx B c q])[i]).q.kind:=d
   show ∃j,∃(h2:j<(B.t++[lx B c q]).length),j<i/\fh (B.t++[lx B c q])[j]=hQ (B.t++[lx B c q])[i].k x
   by_cases e:i<B.t.length
   .rw[u1 e]at d⊢
    obtain⟨j,h2,h3,n⟩:=h.lW i e x d
    exact⟨j,ŉ,h3,by rw[u1 h2];exact n⟩
   have:i=B.t.length:=ŉ
   subst this
   rw[abk (ĉ _)]at d⊢
   simp only[aaC,dU]at d⊢
   obtain⟨t,a,r⟩:=u x d
   obtain⟨j,l,e⟩:=ķ.1 a
   exact⟨j,ŉ,l,by rw[u1 l,e];exact r⟩
  rcases Ĩ.1 a with a|a
  .exact h.num t a
  rw[Ĕ.1 a];exact⟨⟨by show(0:Int)<=0;omega,by show(0:Int)<=13;omega⟩,by show(0:Int)<=0;omega,by show(-1:Int)<=-1;omega⟩
theorem Grown.trans{A B C:Zb}{m n:Nat}(h:Grown A B m)(k:Grown B C n):Grown A C (m+n):=⟨k.ok,h.pre.trans k.pre,by have:=h.len;have:=k.len;omega⟩
theorem Grown.up{A B:Zb}{m n:Nat}(h:Grown A B m)(k:m<=n):Grown A B n:=⟨h.ok,h.pre,by have:=h.len;omega⟩
theorem FY:∀{n:Nat}{B:Zb}{c:Zc}{q:Ze},kB q.kind<=n->ä B->iS c q->Grown B (ij n B c q).1 (kB q.kind)/\∃t∈(ij n B c q).1.t,fh t=hQ c q/\t.id=(ij n B c q).2
 |0,_,_,q,r,_,_=>by
  rcases vr q.kind with ⟨_,h⟩|⟨x,_,h⟩<;>omega
 |n+1,B,c,q,r,k,g=>by
  have e:ij (n+1) B c q=il ((ù q.kind).foldl (λb x=>(ij n b c x).1) B) c q:=rfl;rw[e];rcases vr q.kind with ⟨a,f⟩|⟨x,a,f⟩
  .rw[a];obtain⟨i,k2⟩:=Ut k g (λx d=>by rw[a]at d;cases d);exact⟨i.up f,k2⟩
  rw[a];have d:x∈ù q.kind:=by rw[a];exact Ĕ.2 rfl
  obtain⟨j,t,m,p,s⟩:=FY (n:=n) (B:=B) (c:=c) (q:=x) ŉ k (iS.lW g.ck d);obtain⟨i,k2⟩:=Ut j.ok g (λy l=>by rw[a,Ĕ]at l;subst l;exact⟨t,m,p⟩);exact⟨(j.trans i).up f,k2⟩
end Go.EL

namespace Go.EL
open Go.IntKind (i8 i16 i32 i64 u8 u16 u32 u64)
open Go Go.RowKit
theorem A2{K V:Type}[DecidableEq K]:∀(D:Ŀ (K×V)) (k:K) (x:V),(eX D k x).length<=D.length+1
 |[],_,_=>ĉ _
 |p::D,k,x=>by have:=A2 D k x;unfold eX;split<;>simp only[ě]<;>omega
structure kx (D:Ŀ (Ĳ×Int)) (l:Ŀ Zd):Prop where
 get:∀s,fj D s=(eS l s).map (·.id)
 len:D.length<=l.length
theorem kx.snoc{D:Ŀ (Ĳ×Int)}{l:Ŀ Zd}(h:kx D l){t:Zd}(a:eS l (fh t)=none):kx (eX D (fh t) t.id) (l++[t]) where
 get s:=by
  rw[y8,ZvF,h.get];by_cases e:fh t=s
  .subst e;rw[ă rfl,a];simp
  rw[ā e];cases eS l s with
  |none=>simp[e]
  |some u=>rfl
 len:=by have:=A2 D (fh t) t.id;have:=h.len;rw[Ā];show _<=l.length+1;omega
theorem ä.sn{B:Zb}(h:ä B){t:Zd}(a:t∈B.t):ç t.k/\rT t.q:=⟨(h.can t a).ck.1.ok,(h.can t a).cq.w⟩
theorem T5{B:Zb}(h:ä B)(m:B.t.length<=98){D:Ŀ (Ĳ×Int)}(a:kx D B.t){c:Zc}{q:Ze}(d:iS c q):
  ∃g,kx g (il B c q).1.t/\(tj c q D B).Α (((il B c q).2,0),g,(il B c q).1):=by
 have i:=za d.ck.1.ok d.cq.w
 have j:=zg d.ck.1.ok d.cq.w
 have e:=a.get (hQ c q)
 unfold il
 cases f:eS B.t (hQ c q)with
 |some t=>
  rw[f]at e
  refine⟨D,a,_,i,j,?_⟩
  rw[show fj D (hQ c q)=some t.id from e]
  rfl
 |none=>
  rw[f]at e
  have k:=h.next
  refine⟨eX D (hQ c q) B.next,a.snoc (t:=lx B c q) f,_,i,j,?_⟩
  rw[show fj D (hQ c q)=none from e]
  have l:=A2 D (hQ c q) B.next
  have h2:=a.len
  refine⟨⟨⟨ŉ,ŉ⟩,by simp only[small];omega⟩,?_⟩
  show _=_
  rw[wrap64 ŉ]
  rfl
theorem VS:∀{n:Nat}{B:Zb}{c:Zc}{q:Ze}{D:Ŀ (Ĳ×Int)},kB q.kind<=n->ä B->iS c q->kx D B.t->B.t.length+kB q.kind<=99->
  ∃a,kx a (ij n B c q).1.t/\(vm n c q D B).Α (((ij n B c q).2,0),a,(ij n B c q).1)
 |0,_,_,q,_,r,_,_,_,_=>by
  rcases vr q.kind with ⟨_,h⟩|⟨x,_,h⟩<;>omega
 |n+1,B,c,q,D,r,i,j,m,A=>by
  have e:ij (n+1) B c q=il ((ù q.kind).foldl (λb x=>(ij n b c x).1) B) c q:=rfl;have g:=(FL q).1;rw[e];rcases vr q.kind with ⟨f,p⟩|⟨x,f,p⟩
  .rw[f]at g⊢;obtain⟨a,k,k2⟩:=T5 i ŉ m j;exact⟨a,k,_,g,k2⟩
  have s:x∈ù q.kind:=by rw[f];exact Ĕ.2 rfl
  have d:=iS.lW j.ck s;rw[f]at g⊢;obtain⟨v,t,u⟩:=VS (n:=n) (B:=B) (c:=c) (q:=x) (D:=D) ŉ i d m ŉ;obtain⟨l,_⟩:=FY (n:=n) (B:=B) (c:=c) (q:=x) ŉ i d;have y:=l.len;obtain⟨a,k,k2⟩:=T5 l.ok ŉ t j;exact⟨a,k,_,g,_,u,rfl,k2⟩
theorem ZAr{B:Zb}(h:ä B)(y:B.t.length<=1000):∃D,kx D B.t/\(E2 B (0,[])).Α D:=by
 have key:∀k,k<=B.t.length->∃D,kx D (B.t.take k)/\∀E,(E2 B ((k:Int),D)).Α E->(E2 B (0,[])).Α E:=by
  intro k;induction k with
  |zero=>intro _;exact⟨[],⟨λs=>rfl,ĉ _⟩,λE d=>d⟩
  |succ k r=>
   intro x;obtain⟨D,c,h2⟩:=r ŉ;have a:k<B.t.length:=ŉ;have q:=Ă a;obtain⟨l,m⟩:=h.sn q;have f:eS (B.t.take k) (fh B.t[k])=none:=by
    cases n:eS (B.t.take k) (fh B.t[k])with
    |none=>rfl
    |some u=>
     obtain⟨t,v⟩:=KQ n;obtain⟨j,p,e⟩:=ķ.1 t;rw[č]at p;rw[aah]at e;exact absurd (by rw[e];exact v) (ħ.1 h.Û j k ŉ a ŉ)
   have g:=c.snoc f;rw[<-Ĉ a]at g;have i:=g.len;rw[č]at i;refine⟨_,g,λE d=>h2 E (Cq.Zt (Cq.wp.yes ŉ ⟨_,Λ a,_,za l m,⟨zg l m,by show(eX D (fh B.t[k]) B.t[k].id).length<=small;simp only[small];omega⟩,?_⟩))⟩;show(Cq.loop _ _).wp _;rw[ψ ŉ];exact d
 obtain⟨D,c,h2⟩:=key B.t.length (ĉ _);rw[Ĥ]at c;exact⟨D,c,h2 D (Cq.Zt (Cq.wp.no ŉ rfl))⟩
theorem Mt(kind:Int):kB kind<=4:=by
 unfold kB;repeat' split
 all_goals decide
def gK(B:Zb)(k:Zc)(q:Ze):Zb×Int×Int:=if fm k q=true then((ij 5 B (â k).1 (eU q (â k).2)).1,(ij 5 B (â k).1 (eU q (â k).2)).2,0)else(⟨[],0⟩,0,1)
theorem Bh{B:Zb}(h:ä B)(l:B.t.length<=95){k:Zc}{q:Ze}(a:eB k)(c:fg q):(xF B k q).Α (gK B k q):=by
 refine⟨true,E6 a.ok,_,Ta a.ok.n c,?_⟩;unfold gK;cases hr:fm k q with
 |false=>exact Cq.wp.yes rfl (by show _=_;rw[ā ĳ])
 |true=>
  rw[ă rfl];refine Cq.wp.no ĳ ?_;have f:=iS.of a c hr;have g:kB (eU q (â k).2).kind<=4:=Mt _;obtain⟨D,d,i⟩:=ZAr h ŉ;obtain⟨j,_,h2⟩:=VS (n:=5) (B:=B) (D:=D) ŉ h f d ŉ;refine⟨_,SB a.ok,_,Qj c a.nd,Cq.wp.no (λe=>e rfl) (Cq.eT i ⟨B.t,⟨λe=>by rw[e];rfl,by rw[ļ];simp only[small];omega,rfl⟩,_,h2,Cq.wp.no (λe=>e rfl) rfl⟩)⟩
theorem ZAg{c:Zc}{q:Ze}(d:ç c){t:Zd}(f:ç t.k):oW c q t=decide (fh t=hQ c q):=by
 unfold oW;by_cases e:fh t=hQ c q
 .obtain⟨a,h2⟩:=(T0 f d).2 e;rw[Ą a,Ą h2,Ą e];rfl
 rw[Č e];by_cases a:ø t.k=ø c
 .rw[Ą a,Č (λh2=>e ((T0 f d).1 ⟨a,h2⟩))];rfl
 rw[Č a];rfl
theorem U6{c:Zc}{q:Ze}(a:ç c):∀{l:Ŀ Zd},(∀t∈l,ç t.k)->eS l (hQ c q)=(l.findIdx? (oW c q)).bind λi=>l[i]?
 |[],_=>rfl
 |t::l,h=>by
  have d:=U6 (q:=q) a (l:=l) λu e=>h u (by simp[e]);rw[List.findIdx?_cons,ZAg a (h t ß)];unfold eS at d⊢;rw[abJ];cases decide (fh t=hQ c q)with
  |true=>rfl
  |false=>
   rw[d];cases l.findIdx? (oW c q)with
   |none=>rfl
   |some i=>simp
theorem ä.qE{B:Zb}(h:ä B):∀t∈B.t,lE t:=λt a=>⟨(h.can t a).ck.1.ok.rh,(h.can t a).cq.w⟩
theorem VY{B:Zb}(h:ä B)(k:B.t.length<=98){c:Zc}{q:Ze}(f:iS c q)(e:Int):(Qs ⟨c,q,e⟩ B).Α ⟨(il B c q).1,(il B c q).2,0⟩:=by
 refine⟨_,ZAW ŉ h.qE f.ck.1.ok.rh f.cq.w,?_⟩;have a:=U6 (q:=q) f.ck.1.ok (l:=B.t) λt j=>(h.sn j).1;unfold MP il;cases hi:B.t.findIdx? (oW c q)with
 |none=>
  rw[hi]at a;have a:eS B.t (hQ c q)=none:=a;rw[a];have g:=h.next;refine Cq.wp.no ĳ (Cq.wp.no ŉ (Cq.wp.no ŉ ⟨by rw[ļ];simp only[small];omega,by simp only[ļ,Ā,ě,Ļ];simp only[small];omega,?_⟩));show _=_;rw[wrap64 ŉ,ļ];rfl
 |some i=>
  rw[hi]at a;obtain⟨d,_⟩:=List.findIdx?_eq_some_iff_getElem.1 hi;have a:eS B.t (hQ c q)=some B.t[i]:=by rw[a];exact ą d
  rw[a];exact Cq.wp.yes (show(0:Int)<=(i:Int) by omega) ⟨_,Λ d,rfl⟩
theorem SO:∀{n:Nat}{B:Zb}{k c:Zc}{p q:Ze},kB q.kind<=n->ä B->iS c q->(Ba k p).Α ⟨c,q,0⟩->B.t.length+kB q.kind<=99->
  (A9 n B k p).Α ⟨(ij n B c q).1,(ij n B c q).2,0⟩
 |0,_,_,_,_,q,r,_,_,_,_=>by
  rcases vr q.kind with ⟨_,h⟩|⟨x,_,h⟩<;>omega
 |n+1,B,k,c,p,q,r,g,i,hr,v=>by
  have e:ij (n+1) B c q=il ((ù q.kind).foldl (λb x=>(ij n b c x).1) B) c q:=rfl;have m:=(FL q).2;rw[e];refine⟨_,hr,Cq.wp.no (λe=>e rfl) ⟨_,m,?_⟩⟩;show(Cq.next _ _).wp _;rcases vr q.kind with ⟨f,l⟩|⟨x,f,l⟩
  .rw[f];exact Cq.Zt (Cq.wp.no ĳ (VY g ŉ i 0))
  have s:x∈ù q.kind:=by rw[f];exact Ĕ.2 rfl
  have a:=iS.lW i.ck s;rw[f];have d:=Ru a.ck.1 a.cq;rw[a.iA]at d;have t:=SO (n:=n) (B:=B) (k:=c) (c:=c) (p:=x) (q:=x) ŉ g a d ŉ;obtain⟨j,_⟩:=FY (n:=n) (B:=B) (c:=c) (q:=x) ŉ g a;have u:=j.len;exact Cq.Zt (Cq.wp.yes (show(0:Int)<((1:Nat):Int) by decide) ⟨x,⟨ĳ,rfl⟩,_,t,Cq.wp.no (λe=>e rfl) (Cq.Zt (Cq.wp.no (show ¬i64.wrap (0+1)<((1:Nat):Int) by decide) (VY j.ok ŉ i 0)))⟩)
theorem Zyi{B:Zb}(h:ä B)(i:B.t.length<=95){k:Zc}{q:Ze}(d:eB k)(e:fg q):(A9 5 B k q).Α ⟨(gK B k q).1,(gK B k q).2.1,(gK B k q).2.2⟩:=by
 have a:=Ru d e;unfold gK;cases hr:fm k q with
 |false=>
  have c:iA k q=⟨iQ,⟨0,[],[]⟩,1⟩:=by unfold iA;rw[hr];rfl
  rw[c]at a;exact⟨_,a,Cq.wp.yes ĳ rfl⟩
 |true=>
  have c:iA k q=⟨(â k).1,eU q (â k).2,0⟩:=by unfold iA;rw[if_pos hr]
  rw[c]at a;have f:=iS.of d e hr;have g:kB (eU q (â k).2).kind<=4:=Mt _;rw[ă rfl];exact SO (n:=5) ŉ h f a ŉ
end Go.EL

namespace Go.EL
open Go.IntKind (i8 i16 i32 i64 u8 u16 u32 u64)
open Go Go.RowKit
structure pF (t:Zd):Prop where
 xk:eB t.k\/t.k=iQ
 xq:fg t.q
theorem ZzE:¬eB iQ:=λh=>absurd h.ok.n.1 ĳ
def pD(t:Zd):Prop:=((0<=t.ο/\t.ο<=13)/\0<=t.low/\-1<=t.high)/\eB t.k/\fm t.k t.q=true/\ø (â t.k).1=ø t.k/\hW (eU t.q (â t.k).2)=hW t.q
theorem ZsY:(vl iQ).Α false:=⟨false,Cq.wp.no ĳ rfl,rfl⟩
theorem ZxI{t:Zd}(h:pF t):(KE t).wp λb=>(b=true↔pD t):=by
 by_cases c:t.ο<0
 .refine Cq.wp.yes c ⟨λe=>(nomatch e),λp=>?_⟩;have:=p.1.1.1;omega
 by_cases d:13<t.ο
 .refine Cq.wp.no c (Cq.wp.yes d ⟨λe=>(nomatch e),λp=>?_⟩);have:=p.1.1.2;omega
 by_cases g:t.low<0
 .refine Cq.wp.no c (Cq.wp.no d (Cq.wp.yes g ⟨λe=>(nomatch e),λp=>?_⟩));have:=p.1.2.1;omega
 by_cases i:t.high < -1
 .refine Cq.wp.no c (Cq.wp.no d (Cq.wp.no g (Cq.wp.yes i ⟨λe=>(nomatch e),λp=>?_⟩)));have:=p.1.2.2;omega
 refine Cq.wp.no c (Cq.wp.no d (Cq.wp.no g (Cq.wp.no i ?_)));have j:(0<=t.ο/\t.ο<=13)/\0<=t.low/\-1<=t.high:=ŉ;rcases h.xk with a|a
 .refine⟨true,E6 a.ok,_,Ta a.ok.n h.xq,?_⟩;cases hr:fm t.k t.q with
  |false=>exact Cq.wp.yes rfl ⟨λe=>(nomatch e),λp=>by have:=p.2.2.1;rw[hr]at this;cases this⟩
  |true=>
   refine Cq.wp.no ĳ ⟨_,SB a.ok,_,zo a.canon.ok,_,zo a.ok,?_⟩;by_cases f:ø (â t.k).1=ø t.k
   .refine Cq.wp.no (λe=>e f) ⟨_,Qj h.xq a.nd,Cq.wp.yes rfl ⟨_,Md (SX h.xq a.nd).w,_,Md h.xq.w,?_⟩⟩;exact⟨λe=>⟨j,a,hr,f,ĥ e⟩,λp=>Ą p.2.2.2.2⟩
   exact Cq.wp.yes f ⟨λe=>(nomatch e),λp=>absurd p.2.2.2.1 f⟩
 rw[show JF t=Cq.bind (vl t.k) _ from rfl,a];exact⟨false,ZsY,⟨λe=>(nomatch e),λp=>absurd (a ▸ p.2.1) ZzE⟩⟩
structure An (B:Zb) (i:Nat) (t:Zd):Prop where
 WW:1<=t.id
 idn:t.id<B.next
 inc:∀j (h:j<B.t.length),j+1=i->B.t[j].id<t.id
 prop:pD t
 Û:∀j (h:j<B.t.length),j<i->fh B.t[j]≠fh t
 lW:∀x∈ù t.q.kind,∃j,∃(h:j<B.t.length),j<i/\fh B.t[j]=hQ t.k x
def vd(B:Zb):Prop:=∀i (h:i<B.t.length),An B i B.t[i]
def rX(B:Zb):Prop:=(B.t.length<=100/\1<=B.next/\B.next<=1000000)/\vd B
def Ap(A:Prop):Bool⊕Unit->Prop
 |.inl b=>b=false/\¬A
 |.inr ()=>A
structure nW (D:Ŀ (Ĳ×Bool)) (B:Zb) (i:Nat):Prop where
 get:∀s,(fj D s).getD false=true↔∃j,∃(h:j<B.t.length),j<i/\fh B.t[j]=s
 len:D.length<=i
theorem nW.step{D:Ŀ (Ĳ×Bool)}{B:Zb}{i:Nat}(h:nW D B i)(hi:i<B.t.length):nW (eX D (fh B.t[i]) true) B (i+1) where
 get s:=by
  rw[y8];by_cases e:fh B.t[i]=s
  .rw[ă e];exact⟨λ_=>⟨i,hi,ů _,e⟩,λ_=>rfl⟩
  rw[ā e,h.get];constructor
  .rintro⟨j,a,h2,h3⟩;exact⟨j,a,ŉ,h3⟩
  rintro⟨j,a,h2,h3⟩;by_cases c:j=i
  .subst c;exact absurd h3 e
  exact⟨j,a,ŉ,h3⟩
 len:=by have:=A2 D (fh B.t[i]) true;have:=h.len;omega
theorem ZAu{B:Zb}{i:Nat}{D:Ŀ (Ĳ×Bool)}(e:nW D B i){t:Zd}(f:eB t.k):
  (J8 D t (ù t.q.kind) 0).wp (Ap (∀x∈ù t.q.kind,∃j,∃(h:j<B.t.length),j<i/\fh B.t[j]=hQ t.k x)):=by
 rcases vr t.q.kind with ⟨a,_⟩|⟨x,a,_⟩
 .rw[a]
  exact Cq.Zt (Cq.wp.no ĳ (λx d=>(nomatch d)))
 have d:x∈ù t.q.kind:=by rw[a];exact Ĕ.2 rfl
 have g:=(LY d).w
 rw[a]
 refine Cq.Zt (Cq.wp.yes (show(0:Int)<((1:Nat):Int) by decide) ⟨x,⟨ĳ,rfl⟩,_,za f.ok g,zg f.ok g,?_⟩)
 by_cases c:(fj D (hQ t.k x)).getD false=true
 .refine Cq.wp.no (by rw[c];decide) (Cq.Zt (Cq.wp.no (show ¬i64.wrap (0+1)<((1:Nat):Int) by decide) (λy l=>?_)))
  rw[Ĕ.1 l]
  exact(e.get _).1 c
 refine Cq.wp.yes (by rw[Ź.2 c];rfl) ⟨rfl,λk=>c ((e.get _).2 (k x (Ĕ.2 rfl)))⟩
theorem Rz{B:Zb}(J:∀t∈B.t,pF t)(O:B.t.length<=100):∀(m i:Nat),m+i=B.t.length->∀(last:Int) (D:Ŀ (Ĳ×Bool)),nW D B i->(i=0->last=0)->(∀j (h:j<B.t.length),j+1=i->B.t[j].id=last)->(∀j (h:j<B.t.length),j<i->An B j B.t[j])->
  (J7 B (last,(i:Int),D)).wp (Ap (vd B))
 |0,i,P,last,D,p,v,hp,d=>Cq.Zt (Cq.wp.no ŉ (λj n=>d j n ŉ))
 |m+1,i,P,last,D,p,v,hp,d=>by
  have hi:i<B.t.length:=ŉ;have F:=J _ (Ă hi);have C:0<=last:=by
   by_cases e:i=0
   .rw[v e];exact ŋ _
   have:=(d (i-1) ŉ ŉ).WW;rw[hp (i-1) ŉ ŉ]at this;omega
  have g:(∀j (h:j<B.t.length),j+1=i->B.t[j].id<B.t[i].id)↔i=0\/last<B.t[i].id:=by
   constructor
   .intro h;by_cases e:i=0
    .exact .inl e
    refine .inr ?_;have:=h (i-1) ŉ ŉ;rwa [hp (i-1) ŉ ŉ]at this
   intro h j n e;rw[hp j n e];rcases h with h|h
   .omega
   exact h
  refine Cq.Zt (Cq.wp.yes ŉ ⟨_,Λ hi,?_⟩);by_cases s:B.t[i].id<=last
  .refine Cq.wp.yes s ⟨rfl,λc=>?_⟩;have:=(c i hi).WW;rcases g.1 (c i hi).inc with e|e
   .rw[v e]at s;omega
   omega
  refine Cq.wp.no s ?_;by_cases G:B.next<=B.t[i].id
  .refine Cq.wp.yes G ⟨rfl,λc=>?_⟩;have:=(c i hi).idn;omega
  refine Cq.wp.no G ?_;rcases UX (ZxI F)with ⟨f,l⟩|⟨f,l⟩
  .refine⟨_,l,?_⟩;have A:=f.2.1;have k:=za A.ok F.xq.w;have q:=zg A.ok F.xq.w;refine⟨_,k,q,?_⟩;by_cases r:(fj D (fh B.t[i])).getD false=true
   .refine Cq.wp.yes r ⟨rfl,λc=>?_⟩;obtain⟨j,L,h2,h3⟩:=(p.get _).1 r;exact(c i hi).Û j L h2 h3
   refine Cq.wp.no r ⟨_,(FL _).1,?_⟩;refine Cq.mono (J8 D B.t[i] (ù B.t[i].q.kind) 0) (λo H=>?_) (ZAu p A);cases o with
   |inl b=>
    obtain⟨rfl,E⟩:=H;exact⟨rfl,λc=>E (c i hi).lW⟩
   |inr u=>
    cases u;have E:∀x∈ù B.t[i].q.kind,∃j,∃(h:j<B.t.length),j<i/\fh B.t[j]=hQ B.t[i].k x:=H;have I:=p.step hi;have Q:=I.len;refine⟨_,k,⟨q,by show(eX D (fh B.t[i]) true).length<=small;simp only[small];omega⟩,?_⟩;show(Cq.loop _ _).wp _;rw[ψ ŉ];refine Rz J O m (i+1) ŉ _ _ I (λe=>ŉ) (λj n e=>by obtain rfl:j=i:=ŉ;rfl) (λj n e=>?_);by_cases K:j=i
    .subst K;exact⟨ŉ,ŉ,g.2 (.inr ŉ),f,λa N y e=>r ((p.get _).2 ⟨a,N,y,e⟩),E⟩
    exact d j n ŉ
  exact⟨_,l,rfl,λc=>f (c i hi).prop⟩
theorem Zwx{B:Zb}(i:∀t∈B.t,pF t):(AO B).wp λb=>(b=true↔rX B):=by
 by_cases a:B.next<1
 .refine Cq.wp.yes a ⟨λe=>(nomatch e),λp=>?_⟩;have:=p.1.2.1;omega
 by_cases c:1000000<B.next
 .refine Cq.wp.no a (Cq.wp.yes c ⟨λe=>(nomatch e),λp=>?_⟩);have:=p.1.2.2;omega
 by_cases d:100<(B.t.length:Int)
 .refine Cq.wp.no a (Cq.wp.no c (Cq.wp.yes d ⟨λe=>(nomatch e),λp=>?_⟩));have:=p.1.1;omega
 refine Cq.wp.no a (Cq.wp.no c (Cq.wp.no d ?_));show(Cq.next _ _).wp _;refine Cq.mono (J7 B (0,0,[])) (λo f=>?_) (Rz i ŉ B.t.length 0 rfl 0 [] ⟨λs=>⟨λe=>(nomatch e),λ⟨j,_,h,_⟩=>absurd h (ı _)⟩,ĉ _⟩ (λ_=>rfl) (λj _ e=>ŉ) (λj _ e=>ŉ));cases o with
 |inl b=>
  obtain⟨rfl,g⟩:=f;exact⟨λe=>(nomatch e),λp=>absurd p.2 g⟩
 |inr u=>
  cases u;exact⟨λ_=>⟨ŉ,f⟩,λ_=>rfl⟩
theorem ä.DI{B:Zb}(h:ä B):∀t∈B.t,pF t:=λt a=>⟨.inl (h.can t a).ck.1,(h.can t a).cq⟩
theorem ä.valid{B:Zb}(h:ä B)(l:B.t.length<=100):rX B:=by have m:=h.next;refine⟨ŉ,λi hi=>?_⟩;have f:=Ă hi;have a:=h.can _ f;have g:=h.ids i hi;refine⟨ŉ,ŉ,λj c e=>by have:=h.ids j c;omega,⟨h.num _ f,a.ck.1,a.right,by rw[a.ck.2],by rw[a.ck.2,a.self]⟩,λj c d=>ħ.1 h.Û j i c hi d,λx k=>h.lW i hi x k⟩
end Go.EL

namespace Go.EL
open Go.IntKind (i8 i16 i32 i64 u8 u16 u32 u64)
open Go Go.RowKit
def qI:Zd:=⟨0,⟨0,[],[]⟩,⟨0,[],[]⟩,0,0,0,false⟩
def í(l:Ŀ Zd)(id:Int):Zd×Bool:=match l.find? λt=>decide (t.id=id)with
 |some t=>(t,true)
 |none=>(qI,false)
theorem AX{B:Zb}(j:B.t.length<=1000)(id:Int):(xz B id).Α (í B.t id)/\(FW B id).Α (í B.t id):=by
 have key:∀(m i:Nat),m+i=B.t.length->∀z,((Km B id ((i:Int),z)).wp λo=>o=(match(B.t.drop i).find? (λt=>decide (t.id=id))with|some t=>.inl (t,true)|none=>.inr z))/\((Kh B id ((i:Int),z)).wp λo=>o=(match(B.t.drop i).find? (λt=>decide (t.id=id))with|some t=>.inl (t,true)|none=>.inr z)):=by
  intro m;induction m with
  |zero=>
   intro i hi z;rw[Ķ ŉ];exact⟨Cq.Zt (Cq.wp.no ŉ rfl),Cq.Zt (Cq.wp.no ŉ rfl)⟩
  |succ m h=>
   intro i hi z;have a:i<B.t.length:=ŉ;obtain⟨d,f⟩:=h (i+1) ŉ z;rw[ĭ a,abJ];by_cases e:B.t[i].id=id
   .rw[Ą e];exact⟨Cq.Zt (Cq.wp.yes ŉ ⟨_,Λ a,Cq.wp.yes e rfl⟩),Cq.Zt (Cq.wp.yes ŉ ⟨_,Λ a,Cq.wp.yes e ⟨_,Λ a,rfl⟩⟩)⟩
   rw[Č e];refine⟨Cq.Zt (Cq.wp.yes ŉ ⟨_,Λ a,Cq.wp.no e ?_⟩),Cq.Zt (Cq.wp.yes ŉ ⟨_,Λ a,Cq.wp.no e ?_⟩)⟩
   .show (Cq.loop _ _).wp _;rw[ψ ŉ];exact d
   show(Cq.loop _ _).wp _;rw[ψ ŉ];exact f
 obtain⟨g,k2⟩:=key B.t.length 0 ŉ qI;rw[abh]at g k2;unfold í;constructor
 .show (Cq.next _ _).wp _;refine Cq.mono (Km B id (0,qI)) (λo c=>?_) g;rw[c];cases B.t.find? λt=>decide (t.id=id)<;>rfl
 show(Cq.next _ _).wp _;refine Cq.mono (Kh B id (0,qI)) (λo c=>?_) k2;rw[c];cases B.t.find? λt=>decide (t.id=id)<;>rfl
structure nV (s t:Zd):Prop where
 id:s.id=t.id
 ο:s.ο=t.ο
 low:s.low=t.low
 high:s.high=t.high
 done:s.done=t.done
 k:ø s.k=ø t.k
 q:hW s.q=hW t.q
theorem nV.refl(t:Zd):nV t t:=⟨rfl,rfl,rfl,rfl,rfl,rfl,rfl⟩
theorem Zwv{s t:Zd}(a:lE s)(c:lE t)(h:nV s t):(EN s t).Α true:=by refine Cq.wp.yes h.id (Cq.wp.yes h.ο (Cq.wp.yes h.low (Cq.wp.yes h.high (Cq.wp.yes h.done ⟨_,Fx a.k c.k,?_⟩))));rw[Ą h.k];exact⟨_,SM a.q c.q,Ą h.q⟩
theorem ZpP{B C:Zb}(f:∀t∈B.t,lE t)(g:∀t∈C.t,lE t)(l:B.next=C.next)(n:B.t.length=C.t.length)(j:B.t.length<=1000)(h:∀i (m:i<B.t.length) (h2:i<C.t.length),nV B.t[i] C.t[i]):(xB B C).Α true:=by
 refine Cq.wp.no (λe=>e l) (Cq.wp.no (λe=>e ŉ) ?_);show(Cq.next _ _).wp _;refine Cq.Zn B.t.length (λk s=>s=(k:Int)) (λk s d c=>?_) (λs c=>?_) rfl
 .subst c;have a:k<C.t.length:=ŉ;refine Cq.wp.yes ŉ ⟨_,Λ d,_,Λ a,_,Zwv (f _ (Ă _)) (g _ (Ă _)) (h k d a),Cq.wp.no ĳ ?_⟩;show _=_;rw[ψ ŉ]
 subst c;exact Cq.wp.no ŉ rfl
theorem Qy{B:Zb}(c:∀t∈B.t,lE t)(a:B.t.length<=1000):(xB B B).Α true:=ZpP c c rfl rfl a λi _ _=>nV.refl _
def iN(B:Zb)(t:Zd):Bool:=!t.done&&decide (t.ο<=12)&&(ù t.q.kind).all λx=>match eS B.t (hQ t.k x)with
 |some u=>u.done
 |none=>false
def je(B:Zb)(n:Nat):Ŀ Zd:=B.t.filter λt=>decide (t.ο=(n:Int))&&iN B t
def iD(B:Zb):Ŀ Zd:=(List.range 13).flatMap (je B)
def yn(B:Zb):Ŀ Int:=(iD B).map (·.id)
theorem ZtS{α:Type}(p:α->Bool){l:Ŀ α}{i:Nat}(hi:i<l.length):(l.take (i+1)).filter p=(l.take i).filter p++if p l[i]=true then[l[i]]else[]:=by rw[Ĉ hi,abf];congr 1;rw[ŏ];split<;>rfl
theorem Zv2(B:Zb)(n:Nat):(je B n).length<=B.t.length:=ek _ _
theorem PV(B:Zb):∀n:Nat,((List.range n).flatMap (je B)).length<=n*B.t.length
 |0=>ĝ _
 |n+1=>by rw[aao,dw,Ā,List.flatMap_singleton,Ō];have:=PV B n;have:=Zv2 B n;omega
def yh(s t:Zd):Prop:=s.ο<t.ο\/(s.ο=t.ο/\s.id<t.id)
theorem Va{s t:Zd}:lq s t<0↔yh s t:=by
 unfold lq yh;by_cases a:s.ο<t.ο
 .rw[ă a];omega
 rw[ā a];by_cases b:t.ο<s.ο
 .rw[ă b];omega
 rw[ā b];by_cases c:s.id<t.id
 .rw[ă c];omega
 rw[ā c];split<;>omega
theorem ä.inc{B:Zb}(h:ä B):B.t.Pairwise λs t=>s.id<t.id:=by rw[ħ];intro i j hi c a;have:=h.ids i hi;have:=h.ids j c;omega
theorem TV{B:Zb}(h:ä B):∀n:Nat,((List.range n).flatMap (je B)).Pairwise yh/\∀t∈(List.range n).flatMap (je B),t.ο<(n:Int)
 |0=>⟨List.Pairwise.nil,λt a=>by cases a⟩
 |n+1=>by
  obtain⟨f,h2⟩:=TV h n;have c:∀t∈je B n,t.ο=(n:Int):=λt a=>by have:=(ō.1 a).2;rw[Ċ]at this;exact ĥ this.1
  rw[aao,dw,List.flatMap_singleton,eG];refine⟨⟨f,?_,λs d t a=>.inl (by have:=h2 s d;have:=c t a;omega)⟩,λt a=>?_⟩
  .have hp:(je B n).Pairwise λs t=>s.id<t.id:=h.inc.sublist List.filter_sublist;refine hp.imp_of_mem λ{s t} d a e=>.inr ⟨by have:=c s d;have:=c t a;omega,e⟩
  rcases Ĩ.1 a with a|a
  .have:=h2 t a;omega
  have:=c t a;omega
theorem ZvO{t:Zd}(h:yh t t):False:=by unfold yh at h;omega
theorem Zt1{B:Zb}{t:Zd}(h:iN B t=true):t.done=false/\t.ο<=12:=by unfold iN at h;rw[Ċ,Ċ]at h;exact⟨by simpa using h.1.1,ĥ h.1.2⟩
theorem S9{B:Zb}(h:ä B){t:Zd}:t∈iD B↔t∈B.t/\iN B t=true:=by
 unfold iD je;simp only[List.mem_flatMap,ĺ,ō,Ċ,ę];constructor
 .rintro⟨n,_,a,_,h2⟩;exact⟨a,h2⟩
 rintro⟨a,h2⟩;have c:=(h.num t a).1;have:=(Zt1 h2).2;exact⟨t.ο.toNat,ŉ,a,ŉ,h2⟩
theorem Zv3{B:Zb}(h:ä B){ys:Ŀ Zd}(hp:ys.Perm (B.t.filter (iN B)))(u:ys.Pairwise λx y=>¬lq y x<0):ys=iD B:=by
 have hr:=(TV h 13).1;have f:(iD B).Nodup:=hr.imp λ{s t} e c=>by subst c;exact ZvO e
 have d:(B.t.filter (iN B)).Nodup:=(h.inc.sublist List.filter_sublist).imp λ{s t} e c=>by subst c;exact Int.lt_irrefl _ e
 refine abr (le:=λx y=>¬lq y x<0) (λa b n p l h2=>?_) u (hr.imp λ{s t} e c=>?_) (hp.trans ((abd d f).2 λt=>?_))
 .rw[Va]at l h2;have v:=(ō.1 (hp.mem_iff.1 n)).1;have mb:=((S9 h).1 p).1;obtain⟨i,hi,g⟩:=ķ.1 v;obtain⟨j,r,k⟩:=ķ.1 mb;have h3:=h.ids i hi;have m:=h.ids j r;have q:a.id=b.id:=by unfold yh at l h2;omega
  rw[g]at h3;rw[k]at m;have:i=j:=ŉ;subst this;rw[<-g,<-k]
 .rw[Va]at c;unfold yh at e c;omega
 rw[S9 h,ō]
end Go.EL

namespace Go.EL
open Go.IntKind (i8 i16 i32 i64 u8 u16 u32 u64)
open Go Go.RowKit
structure pB (D:Ŀ (Ĳ×Bool)) (B:Zb) (i:Nat):Prop where
 get:∀s,(fj D s).getD false=true↔∃j,∃(h:j<B.t.length),j<i/\fh B.t[j]=s/\B.t[j].done=true
 len:D.length<=i
theorem Zyx{B:Zb}(h:ä B)(u:B.t.length<=1000):∃D,pB D B B.t.length/\(Eg B (0,[])).Α D:=by
 have key:∀k,k<=B.t.length->∃D,pB D B k/\∀E,(Eg B ((k:Int),D)).Α E->(Eg B (0,[])).Α E:=by
  intro k;induction k with
  |zero=>intro _;exact⟨[],⟨λs=>⟨λe=>(nomatch e),λ⟨j,_,h,_⟩=>absurd h (ı _)⟩,ĉ _⟩,λE i=>i⟩
  |succ k r=>
   intro t;obtain⟨D,g,h2⟩:=r ŉ;have f:k<B.t.length:=ŉ;obtain⟨n,p⟩:=h.sn (Ă f);have q:=g.len;cases l:B.t[k].done with
   |true=>
    have v:=A2 D (fh B.t[k]) true;refine⟨eX D (fh B.t[k]) true,⟨λs=>?_,ŉ⟩,λE i=>h2 E (Cq.Zt (Cq.wp.yes ŉ ⟨_,Λ f,Cq.wp.yes l ⟨_,za n p,⟨zg n p,by show(eX D (fh B.t[k]) true).length<=small;simp only[small];omega⟩,?_⟩⟩))⟩
    .rw[y8];by_cases e:fh B.t[k]=s
     .rw[ă e];exact⟨λ_=>⟨k,f,ů _,e,l⟩,λ_=>rfl⟩
     rw[ā e,g.get];constructor
     .rintro⟨j,a,b,c⟩;exact⟨j,a,ŉ,c⟩
     rintro⟨j,a,b,c,d⟩;by_cases m:j=k
     .subst m;exact absurd c e
     exact⟨j,a,ŉ,c,d⟩
    show(Cq.loop _ _).wp _;rw[ψ ŉ];exact i
   |false=>
    refine⟨D,⟨λs=>?_,ŉ⟩,λE i=>h2 E (Cq.Zt (Cq.wp.yes ŉ ⟨_,Λ f,Cq.wp.no (by rw[l];decide) ?_⟩))⟩
    .rw[g.get];constructor
     .rintro⟨j,a,b,c⟩;exact⟨j,a,ŉ,c⟩
     rintro⟨j,a,b,c,d⟩;by_cases m:j=k
     .subst m;rw[l]at d;cases d
     exact⟨j,a,ŉ,c,d⟩
    show(Cq.loop _ _).wp _;rw[ψ ŉ];exact i
 obtain⟨D,g,h2⟩:=key B.t.length (ĉ _);exact⟨D,g,h2 D (Cq.Zt (Cq.wp.no ŉ rfl))⟩
theorem ZwH{B:Zb}(h:ä B){D:Ŀ (Ĳ×Bool)}(l:pB D B B.t.length)(s:Ĳ):(fj D s).getD false=(match eS B.t s with|some u=>u.done|none=>false):=by
 rw[abK,l.get];cases g:eS B.t s with
 |none=>
  constructor
  .rintro⟨j,a,_,c,_⟩;exact absurd c (RK g _ (Ă a))
  intro e;cases e
 |some u=>
  obtain⟨n,f⟩:=KQ g;obtain⟨i,hi,e⟩:=ķ.1 n;dsimp only;constructor
  .rintro⟨j,a,_,c,d⟩;have:i=j:=by
    by_cases k:i<j
    .exact absurd (by rw[e,f,c]) (ħ.1 h.Û i j hi a k)
    by_cases h2:j<i
    .exact absurd (by rw[e,f,c]) (ħ.1 h.Û j i a hi h2)
    omega
   subst this;rw[<-e];exact d
  intro m;exact⟨i,hi,hi,by rw[e];exact f,by rw[e];exact m⟩
theorem ZrH{B:Zb}(h:ä B){D:Ŀ (Ĳ×Bool)}(f:pB D B B.t.length){t:Zd}(d:eB t.k):
  (ZG (ù t.q.kind) D t).Α (!(ù t.q.kind).all λx=>match eS B.t (hQ t.k x)with|some u=>u.done|none=>false):=by
 rcases vr t.q.kind with ⟨a,_⟩|⟨x,a,_⟩
 .rw[a]
  exact⟨-1,Cq.Zt (Cq.wp.no ĳ rfl),rfl⟩
 have i:x∈ù t.q.kind:=by rw[a];exact Ĕ.2 rfl
 have e:=(LY i).w
 have g:=ZwH h f (hQ t.k x)
 have c:(J5 x D t).Α (!((fj D (hQ t.k x)).getD false)):=⟨_,za d.ok e,zg d.ok e,rfl⟩
 rw[g]at c
 rw[a]
 simp only[aaP,List.all_nil,abU]
 generalize (match eS B.t (hQ t.k x)with|some u=>u.done|none=>false:Bool)=b at c
 cases b with
 |true=>exact⟨-1,Cq.Zt (Cq.wp.yes (show(0:Int)<((1:Nat):Int) by decide) ⟨x,⟨ĳ,rfl⟩,_,c,Cq.wp.no ĳ (Cq.Zt (Cq.wp.no (show ¬i64.wrap (0+1)<((1:Nat):Int) by decide) rfl))⟩),rfl⟩
 |false=>exact⟨0,Cq.Zt (Cq.wp.yes (show(0:Int)<((1:Nat):Int) by decide) ⟨x,⟨ĳ,rfl⟩,_,c,Cq.wp.yes rfl rfl⟩),rfl⟩
theorem Zvt{B:Zb}(h:ä B)(q:B.t.length<=100):(Ff B).Α (yn B):=by
 obtain⟨D,p,r⟩:=Zyx h ŉ;refine Cq.eT r ?_;show(Cq.next _ _).wp _;refine Cq.Zn B.t.length (λi s=>s=((B.t.take i).filter (iN B),(i:Int))) (λi s hi d=>?_) (λs d=>?_) rfl
 .subst d;have a:=ZtS (iN B) hi;have f:((B.t.take i).filter (iN B)).length<=100:=ň (ek _ _) (by rw[č];omega);have l:=(h.can _ (Ă hi)).ck.1;have c:iN B B.t[i]=(!B.t[i].done&&decide (B.t[i].ο<=12)&&(ù B.t[i].q.kind).all λx=>match eS B.t (hQ B.t[i].k x)with|some u=>u.done|none=>false):=rfl;refine Cq.wp.yes ŉ ⟨_,Λ hi,?_⟩;cases j:B.t[i].done with
  |true=>
   have A:iN B B.t[i]=false:=by rw[c,j];rfl
   rw[A,ā ĳ,Ě]at a;refine Cq.wp.yes j ?_;show _=_;rw[ψ ŉ,a]
  |false=>
   refine Cq.wp.no (by rw[j];decide) ?_;by_cases g:B.t[i].ο<=12
   .rw[c,j,Ą g]at a;refine Cq.wp.yes g ⟨_,(FL _).1,_,ZrH h p l,?_⟩;generalize ((ù B.t[i].q.kind).all λx=>match eS B.t (hQ B.t[i].k x)with|some u=>u.done|none=>false)=b at a;cases b with
    |true=>
     rw[ă ĳ]at a;refine Cq.wp.yes rfl ⟨by simp only[Ā,ě,Ļ];simp only[small];omega,?_⟩;show _=_;rw[ψ ŉ,a]
    |false=>
     rw[ā ĳ,Ě]at a;refine Cq.wp.no ĳ ?_;show _=_;rw[ψ ŉ,a]
   rw[c,Č g,Bool.and_false,ŵ,ā ĳ,Ě]at a;refine Cq.wp.no g ?_;show _=_;rw[ψ ŉ,a]
 subst d;refine Cq.wp.no ŉ ?_;rw[Ĥ];have f:(B.t.filter (iN B)).length<=100:=ň (ek _ _) q;obtain⟨v,y,C,E⟩:=Ty f;have e:(ZR (B.t.filter (iN B))).Α (iD B):=⟨_,y,iD B,⟨⟨rfl,rfl,⟨C,E⟩,ŉ⟩,λys n=>Zv3 h n.1 n.2⟩,rfl⟩;refine⟨_,e,?_⟩;have t:=PV B 13;show(Cq.next _ _).wp _;refine Cq.Zn (iD B).length (λk s=>s=(((iD B).take k).map (·.id),(k:Int))) (λk s l d=>?_) (λs d=>?_) rfl
 .subst d;have m:(iD B).length<=1300:=by
   show((List.range 13).flatMap (je B)).length<=1300;omega
  refine Cq.wp.yes ŉ ⟨_,Λ l,by simp only[Ā,ć,č,ě,Ļ];simp only[small];omega,?_⟩;show _=_;rw[ψ ŉ,Ĉ l,Ī];rfl
 subst d;refine Cq.wp.no ŉ ?_;rw[Ĥ];rfl
end Go.EL

namespace Go.EL
open Go.IntKind (i8 i16 i32 i64 u8 u16 u32 u64)
open Go Go.RowKit
theorem xL(N:Nat)(p:N<=1000)(f:Nat->Bool){step:Int->Cq (Int⊕(Bool⊕Unit))}(h:∀k,k<N->(step (k:Int)).wp λo=>o=if f k=true then .inl (i64.wrap ((k:Int)+1))else .inr (.inl false))
  (a:(step (N:Int)).wp λo=>o=.inr (.inr ())):(Cq.loop step 0).wp λo=>o=if(List.range N).all f=true then .inr ()else .inl false:=by
 refine Cq.Zn N (λk s=>s=(k:Int)/\∀i,i<k->f i=true) (λk s l j=>?_) (λs j=>?_) ⟨rfl,λi hi=>absurd hi (ı _)⟩
 .obtain⟨rfl,d⟩:=j
  refine(step _).mono (λo g=>?_) (h k l)
  subst g
  by_cases c:f k=true
  .rw[ă c]
   refine⟨ψ ŉ,λi m=>?_⟩
   by_cases e:i=k
   .subst e;exact c
   exact d i ŉ
  rw[ā c]
  show _=_
  rw[ā λe=>c (Ć.1 e _ (ĺ.2 l))]
 obtain⟨rfl,d⟩:=j
 refine(step _).mono (λo g=>?_) a
 subst g
 show _=_
 rw[ă (Ć.2 λx n=>d x (ĺ.1 n))]
theorem zf{α:Type}(l:Ŀ α)(g:l.length<=1000)(f:α->Bool){step:Int->Cq (Int⊕(Bool⊕Unit))}(h:∀k (d:k<l.length),(step (k:Int)).wp λo=>o=if f l[k]=true then .inl (i64.wrap ((k:Int)+1))else .inr (.inl false))
  (a:(step (l.length:Int)).wp λo=>o=.inr (.inr ())):(Cq.loop step 0).wp λo=>o=if l.all f=true then .inr ()else .inl false:=by
 have key:=xL l.length g (λk=>(l[k]?.map f).getD true) (step:=step) (λk d=>by have:=h k d;rw[ą d];exact this) a
 have e:((List.range l.length).all λk=>(l[k]?.map f).getD true)=l.all f:=by
  rw[abK,Ć,Ć];constructor
  .intro c x j;obtain⟨i,hi,rfl⟩:=ž j;have:=c i (ĺ.2 hi);rw[ą hi]at this;exact this
  intro c i hi;have hi:=ĺ.1 hi;rw[ą hi];exact c _ (Ă hi)
 rw[e]at key
 exact key
def fU(p:Ö)(n d:Int):Bool:=decide ((ï p).toNat<2 ^ n.toNat)&&decide (gl p<=d)
theorem Zzk{p:Ö}{n:Nat}(e:n<=4):(Int.fdiv (i64.wrap (ï p)) (2 ^ (min (n:Int).toNat i64.bits))=0)↔(ï p).toNat<2 ^ n:=by
 have f:=uj p;rw[wrap64 ŉ];obtain⟨u,c⟩:∃u:Nat,ï p=(u:Int):=⟨(ï p).toNat,ŉ⟩;have d:Int.fdiv (ï p) (2 ^ (min (n:Int).toNat i64.bits))=((u / 2 ^ n:Nat):Int):=by rw[c,Ē,ż (show n<=i64.bits from ň e ĳ),aai _ (Int.le_of_lt (Int.pow_pos ĳ))];push_cast;rfl
 rw[d,c,Ē];have hp:=aaf n;constructor
 .intro a;have a:u / 2 ^ n=0:=ŉ;rcases x6.1 a with h|h
  .omega
  exact h
 intro a;rw[aaO a];rfl
theorem KA{k:Zc}(f:1<=k.n/\k.n<=4){p:Ö}(h:ω p)(d:Int):(è ⟨k⟩ p d).Α (fU p k.n d):=by
 refine⟨true,D5 h,_,FX h.len,by show 0<=k.n;omega,?_⟩;obtain⟨n,c⟩:∃n:Nat,k.n=(n:Int):=⟨k.n.toNat,ŉ⟩;have hi:=Zzk (p:=p) (n:=n) ŉ;unfold fU;show Cq.wp (if(Int.fdiv (i64.wrap (ï p)) (2 ^ (min (k.n).toNat i64.bits)))=0 then _ else _) _;rw[c,Ē];by_cases a:(ï p).toNat<2 ^ n
 .rw[Ą a,ť];exact Cq.wp.yes (hi.2 a) ⟨_,yM h,rfl⟩
 rw[Č a,ŵ];exact Cq.wp.no (λe=>a (hi.1 e)) rfl
theorem ED{n:Int}(f:1<=n/\n<=4){p:Ö}(h:ω p)(d:Int):(xh p n d).Α (fU p n d):=by
 obtain⟨n,rfl⟩:∃m:Nat,n=(m:Int):=⟨n.toNat,ŉ⟩;have nP:1<=n/\n<=4:=ŉ;have g:=uj p;have c:u64.wrap (n:Int)=(n:Int):=qO ⟨ŉ,ŉ⟩;have a:i64.wrap (1*2 ^ (min (n:Int).toNat i64.bits))=((2 ^ n:Nat):Int):=by
  match n,nP with
  |1,_=>rfl
  |2,_=>rfl
  |3,_=>rfl
  |4,_=>rfl
 refine⟨true,Av h,_,Au h.len,by rw[c];omega,?_⟩;rw[c,a,wrap64 ŉ];unfold fU;rw[Ē];by_cases e:(ï p).toNat<2 ^ n
 .rw[Ą e,ť];exact Cq.wp.yes ŉ ⟨_,xa h,rfl⟩
 rw[Č e,ŵ];exact Cq.wp.no ŉ rfl
theorem xD{c:Cq (Bool⊕Unit)}{b:Bool}{k:Bool⊕Unit->Cq Bool}(h:c.wp λo=>o=if b=true then .inr ()else .inl false)(d:k (.inl false)=Cq.ret false)(h2:k (.inr ())=Cq.ret true):(c.next k).wp λa=>a=b:=by
 refine c.mono (λo e=>?_) h;subst e;cases b with
 |false=>rw[ā ĳ,d];rfl
 |true=>rw[ă rfl,h2];rfl
theorem TL{k:Zc}(a:1<=k.n/\k.n<=4){l:Ŀ Ö}(c:l.length<=3)(h:∀p∈l,ω p):(Ä ⟨k⟩ l).Α (l.all λp=>fU p k.n 64):=by
 refine Cq.wp.yes ŉ ⟨_,⟨_,xD (zf l ŉ (λp=>fU p k.n 64) (λi hi=>?_) ?_) rfl rfl,rfl⟩,rfl⟩
 .refine Cq.wp.yes ŉ ⟨_,Λ hi,_,⟨_,KA a (h _ (Ă hi)) 64,rfl⟩,?_⟩;cases fU l[i] k.n 64 with
  |false=>exact Cq.wp.yes rfl rfl
  |true=>exact Cq.wp.no ĳ rfl
 exact Cq.wp.no ŉ rfl
theorem SL{n:Int}(a:1<=n/\n<=4){l:Ŀ Ö}(c:l.length<=3)(h:∀p∈l,ω p):(F3 l n).Α (l.all λp=>fU p n 64):=by
 refine xD (zf l ŉ (λp=>fU p n 64) (λi hi=>?_) ?_) rfl rfl
 .refine Cq.wp.yes ŉ ⟨_,Λ hi,_,ED a (h _ (Ă hi)) 64,?_⟩;cases fU l[i] n 64 with
  |false=>exact Cq.wp.yes rfl rfl
  |true=>exact Cq.wp.no ĳ rfl
 exact Cq.wp.no ŉ rfl
def lz(s:Ŀ Int):Prop:=s.length<=3/\∀x∈s,-1<=x/\x<=1
theorem ZxQ{s:Ŀ Int}(h:lz s):(Jg s).Α true:=by
 have key:=zf s (by have:=h.1;omega) (λ_=>true) (step:=λa=>if a<(s.length:Int)then(Cq.Θ s a λf=>Cq.bind (Ki f) λc=>if(!c)=true then(Cq.ret (.inr (.inl false)))else(Cq.ret (.inl (i64.wrap (a+1)))))else(Cq.ret (.inr (.inr ())))) (λi hi=>?_) ?_
 .have e:(s.all λ_=>true)=true:=Ć.2 λ_ _=>rfl;rw[e]at key;exact Cq.eT key rfl
 .have d:=h.2 _ (Ă hi);refine Cq.wp.yes ŉ ⟨_,Λ hi,true,Cq.wp.yes d.1 ?_,Cq.wp.no ĳ rfl⟩;exact Ą d.2
 exact Cq.wp.no ŉ rfl
theorem Zvs{s:Ŀ Int}(h:lz s):(K0 s).Α true:=by
 have key:=zf s (by have:=h.1;omega) (λ_=>true) (step:=λa=>if a<(s.length:Int)then(Cq.Θ s a λc=>if c<(-1)then(Cq.ret (.inr (.inl false)))else(Cq.Θ s a λd=>if 1<d then Cq.fail else(Cq.ret (.inl (i64.wrap (a+1))))))else(Cq.ret (.inr (.inr ())))) (λi hi=>?_) ?_
 .have e:(s.all λ_=>true)=true:=Ć.2 λ_ _=>rfl;rw[e]at key;exact Cq.eT key rfl
 .have f:=h.2 _ (Ă hi);exact Cq.wp.yes ŉ ⟨_,Λ hi,Cq.wp.no ŉ ⟨_,Λ hi,Cq.wp.no ŉ rfl⟩⟩
 exact Cq.wp.no ŉ rfl
def nk(x y m:Int):Ŀ Zl:=[mj x m,mj y m,mj 0 0,mj 0 0,mj 0 0,mj 0 0,mj 0 0,mj 0 0]
def nT(b:Ŀ Zl):Prop:=∃x y m,gR x/\gR y/\iG m/\b=nk x y m
def lj(x:Zl):Bool:=x.lo.num.χ.isEmpty&&x.hi.num.χ.isEmpty
def ik(n:Int)(b:Ŀ Zl):Bool:=decide (2<=n) || (b[1]?.map lj).getD true
theorem ZAo:(á (-128) 127 λn=>(Μ (nQ n)).num.χ.isEmpty == decide (n=0))=true:=by decide +kernel
theorem ZAh:(á 0 7 λm=>(Μ (oV 0 m)).num.χ.isEmpty == decide (m=0))=true:=by decide +kernel
def wK(n m:Int):Bool:=decide (n=0)&&decide (m=0)
theorem Uc{n m:Int}(h:gR n)(c:iG m):lj (mj n m)=wK n m:=by
 have l:=eq_of_beq (Zr ZAo h.1 h.2);unfold lj wK;show((Μ (nQ n)).num.χ.isEmpty&&(Μ (oV n m)).num.χ.isEmpty)=_;rw[l];by_cases a:n=0
 .subst a;rw[eq_of_beq (Zr ZAh c.1 c.2)]
 rw[Č a];rfl
theorem UH{n m:Int}(h:gR n)(c:iG m):∃a b:Bool,(vx (mj n m).lo).Α a/\(tD (mj n m).lo).Α a/\(a=true->(vx (mj n m).hi).Α b/\(tD (mj n m).hi).Α b)/\lj (mj n m)=(a&&b):=by rw[Uc h c];refine⟨_,_,(UJ h).1,(UJ h).2,λe=>?_,rfl⟩;have e:=ĥ e;subst e;exact ZAf c
theorem Mj{x y m:Int}(e:gR x)(f:gR y)(a:iG m){k:Nat}(c:k<8):∃n d,gR n/\iG d/\(0:Int)<=(k:Int)/\(nk x y m)[(k:Int).toNat]?=some (mj n d)/\(2<=k->n=0/\d=0)/\(k=1->n=y/\d=m):=by
 have z:gR 0/\iG 0:=ĳ;match k,c with
 |0,_=>exact⟨x,m,e,a,ĳ,rfl,λh=>absurd h ĳ,λh=>absurd h ĳ⟩
 |1,_=>exact⟨y,m,f,a,ĳ,rfl,λh=>absurd h ĳ,λ_=>⟨rfl,rfl⟩⟩
 |2,_=>exact⟨0,0,z.1,z.2,ĳ,rfl,λ_=>⟨rfl,rfl⟩,λh=>absurd h ĳ⟩
 |3,_=>exact⟨0,0,z.1,z.2,ĳ,rfl,λ_=>⟨rfl,rfl⟩,λh=>absurd h ĳ⟩
 |4,_=>exact⟨0,0,z.1,z.2,ĳ,rfl,λ_=>⟨rfl,rfl⟩,λh=>absurd h ĳ⟩
 |5,_=>exact⟨0,0,z.1,z.2,ĳ,rfl,λ_=>⟨rfl,rfl⟩,λh=>absurd h ĳ⟩
 |6,_=>exact⟨0,0,z.1,z.2,ĳ,rfl,λ_=>⟨rfl,rfl⟩,λh=>absurd h ĳ⟩
 |7,_=>exact⟨0,0,z.1,z.2,ĳ,rfl,λ_=>⟨rfl,rfl⟩,λh=>absurd h ĳ⟩
def gp(n:Int)(b:Ŀ Zl)(k:Nat):Bool:=decide ((k:Int)<n) || (b[(k:Int).toNat]?.map lj).getD true
theorem SA{n:Int}(q:1<=n/\n<=4){b:Ŀ Zl}(h:nT b):(List.range 8).all (gp n b)=ik n b:=by
 obtain⟨x,y,m,j,l,i,rfl⟩:=h;have z:∀k,2<=k->k<8->gp n (nk x y m) k=true:=λk h2 g=>by obtain⟨a,d,_,_,_,e,p,_⟩:=Mj j l i g;obtain⟨rfl,rfl⟩:=p h2;unfold gp;rw[e];show(_ || lj (mj 0 0))=true;rw[Uc ĳ ĳ];exact aa2 _
 have c:gp n (nk x y m) 0=true:=by unfold gp;rw[decide_eq_true (show((0:Nat):Int)<n by omega)];rfl
 have f:gp n (nk x y m) 1=ik n (nk x y m):=by unfold gp ik;have:decide (((1:Nat):Int)<n)=decide (2<=n):=ũ.2 ⟨λh=>by omega,λh=>by omega⟩;rw[this];rfl
 show(gp n _ 0&&(gp n _ 1&&(gp n _ 2&&(gp n _ 3&&(gp n _ 4&&(gp n _ 5&&(gp n _ 6&&(gp n _ 7&&true))))))))=_;rw[c,f,z 2 ĳ ĳ,z 3 ĳ ĳ,z 4 ĳ ĳ,z 5 ĳ ĳ,z 6 ĳ ĳ,z 7 ĳ ĳ];simp
theorem ZzM{k:Zc}(p:1<=k.n/\k.n<=4){b:Ŀ Zl}(h:nT b):(dR ⟨k⟩ b).Α (ik k.n b):=by
 rw[<-SA p h];obtain⟨x,y,m,q,r,n,rfl⟩:=h;refine xD (xL 8 ĳ (gp k.n (nk x y m)) (λi hi=>?_) ?_) rfl rfl
 .obtain⟨a,d,g,j,f,e,_,_⟩:=Mj q r n hi;unfold gp;rw[e];show Cq.wp _ λo=>o=if(_ || lj (mj a d))=true then _ else _;by_cases c:(i:Int)<k.n
  .rw[Ą c,Ŭ,ă rfl];exact Cq.wp.yes ŉ ⟨_,⟨f,e⟩,Cq.wp.yes c ⟨true,Zoo g j,Cq.wp.no (by show ¬k.n<=(i:Int);omega) rfl⟩⟩
  rw[Č c,Ľ];obtain⟨u,v,t,s,z3,l⟩:=UH g j;rw[l];refine Cq.wp.yes ŉ ⟨_,⟨f,e⟩,Cq.wp.no c (Cq.wp.yes (by show k.n<=(i:Int);omega) ⟨u,s,?_⟩)⟩;cases u with
  |false=>rfl
  |true=>
   refine⟨v,(z3 rfl).2,?_⟩;cases v with
   |false=>exact Cq.wp.yes rfl rfl
   |true=>exact Cq.wp.no ĳ rfl
 exact Cq.wp.no ĳ rfl
def ku(b:Ŀ (Ŀ Zl)):Prop:=b.length<=3/\∀x∈b,nT x
theorem SV{k:Zc}(a:1<=k.n/\k.n<=4){l:Ŀ (Ŀ Zl)}(h:ku l):(Â ⟨k⟩ l).Α (l.all (ik k.n)):=by
 have c:=h.1;refine Cq.wp.yes ŉ ⟨_,xD (zf l ŉ (ik k.n) (λi hi=>?_) ?_) rfl rfl,rfl⟩
 .refine Cq.wp.yes ŉ ⟨_,Λ hi,_,ZzM a (h.2 _ (Ă hi)),?_⟩;cases ik k.n l[i]with
  |false=>exact Cq.wp.yes rfl rfl
  |true=>exact Cq.wp.no ĳ rfl
 exact Cq.wp.no ŉ rfl
theorem ZzI{n:Int}(t:1<=n/\n<=4){l:Ŀ (Ŀ Zl)}{j:Nat}(r:j<l.length)(h:nT l[j]):(Qo l n (j:Int) 0).wp λo=>o=if ik n l[j]=true then .inr ()else .inl false:=by
 rw[<-SA t h];have km:=Λ r;obtain⟨x,y,m,A,B,s,p⟩:=h;rw[p]at km⊢;refine xL 8 ĳ (gp n (nk x y m)) (λi hi=>?_) ?_
 .obtain⟨a,d,f,g,c,e,_,_⟩:=Mj A B s hi;unfold gp;rw[e];show Cq.wp _ λo=>o=if(_ || lj (mj a d))=true then _ else _;by_cases k:(i:Int)<n
  .rw[Ą k,Ŭ,ă rfl];exact Cq.wp.yes ŉ ⟨_,km,_,⟨c,e⟩,true,Qg f g,Cq.wp.no ŉ rfl⟩
  rw[Č k,Ľ];obtain⟨u,v,C,D,z3,q⟩:=UH f g;rw[q];refine Cq.wp.yes ŉ ⟨_,km,_,⟨c,e⟩,true,Qg f g,Cq.wp.yes ŉ ⟨_,km,_,⟨c,e⟩,u,C,?_⟩⟩;cases u with
  |false=>rfl
  |true=>
   refine⟨_,km,_,⟨c,e⟩,v,(z3 rfl).1,?_⟩;cases v with
   |false=>exact Cq.wp.yes rfl rfl
   |true=>exact Cq.wp.no ĳ rfl
 exact Cq.wp.no ĳ rfl
theorem R1{n:Int}(a:1<=n/\n<=4){l:Ŀ (Ŀ Zl)}(h:ku l):(FQ l n).Α (l.all (ik n)):=by
 have c:=h.1;refine Cq.wp.no ŉ (xD (zf l ŉ (ik n) (λi hi=>?_) ?_) rfl rfl)
 .refine Cq.wp.yes ŉ (Cq.eT (ZzI a hi (h.2 _ (Ă hi))) ?_);cases ik n l[i]with
  |false=>rfl
  |true=>rfl
 exact Cq.wp.no ŉ rfl
end Go.EL

namespace Go.EL
open Go.IntKind (i8 i16 i32 i64 u8 u16 u32 u64)
open Go Go.RowKit
theorem Cq.wp.nr{α:Type}{p:Prop}[Decidable p]{A B:Cq α}{q:α->Prop}(e:decide p=false)(h:B.wp q):(if p then A else B).wp q:=Cq.wp.no (aa3 e) h
def rR(l:Ŀ Ö):Prop:=l.length<=3/\∀p∈l,ω p
inductive Æ:Zh->Prop
 |ie (c:Int) (p:Ö):c=1\/c=2\/c=10->ω p->Æ ⟨c,p,0,0,0,[],[],[],[]⟩
 |nil (c:Int):c=3\/c=9->Æ ⟨c,[],0,0,0,[],[],[],[]⟩
 |Hc (o:Ord) (l:Ŀ Ö):o∈kV->rR l->Æ ⟨4,[],0,0,0,o,l,[],[]⟩
 |BW (n d:Int):0<=n/\n<=15->-1<=d/\d<=2->Æ ⟨5,[],n,d,0,[],[],[],[]⟩
 |HX (n d r:Int):0<=r/\r<=d/\d<=n/\n<=7->Æ ⟨6,[],n,d,r,[],[],[],[]⟩
 |box (b:Ŀ (Ŀ Zl)):ku b->Æ ⟨7,[],0,0,0,[],[],[],b⟩
 |sig (p:Ö) (s:Ŀ Int) (b:Ŀ (Ŀ Zl)):ω p->lz s->s.length=b.length->ku b->Æ ⟨8,p,0,0,0,[],[],s,b⟩
 |u4 (l:Ŀ Ö):rR l->Æ ⟨11,[],0,0,0,[],l,[],[]⟩
 |zL (c n:Int):c=12\/c=13->0<=n/\n<=7->Æ ⟨c,[],n,0,0,[],[],[],[]⟩
def Χ(k:Zc)(c:Zh):Bool:=fU c.p k.n 12&&c.l.all (λp=>fU p k.n 64)&&c.b.all (ik k.n)&&(decide (c.kind≠5) || decide (c.d<=k.n))
theorem oH{n:Int}:fU [] n 12=true:=by have h:(ï []).toNat<2 ^ n.toNat:=aaf _;unfold fU;rw[Ą h];rfl
theorem tC:(ZP ⟨0,[],0,0,0,[],[],[],[]⟩).Α true:=Cq.Α.mn 20 (by decide +kernel)
theorem Zob{k:Zc}(h:ç k){c:Zh}(u:Æ c):(EY k c).Α (Χ k c):=by
 have i:=h.n;have B:(Ã ⟨k⟩).Α true:=by have:=E6 h;obtain⟨v,t,h2⟩:=this;have h2:v=true:=h2;subst h2;exact t
 refine⟨_,⟨true,B,Cq.wp.nr rfl ?_⟩,rfl⟩;cases u with
 |ie c p g hp=>
  have e:Χ k ⟨c,p,0,0,0,[],[],[],[]⟩=fU p k.n 12:=by unfold Χ;rw[Ą (show c≠5 by omega)];simp
  rw[e];have k3:(ì ⟨⟨k⟩,⟨c,p,0,0,0,[],[],[],[]⟩⟩ true).Α (fU p k.n 12):=by
   refine Cq.wp.yes rfl ⟨_,KA i hp 12,?_⟩;cases fU p k.n 12 with
   |false=>exact Cq.wp.nr rfl rfl
   |true=>exact Cq.wp.yes rfl ⟨_,tC,rfl⟩
  rcases g with rfl|rfl|rfl
  .exact Cq.wp.yes rfl k3
  .exact Cq.wp.nr rfl (Cq.wp.yes rfl k3)
  exact Cq.wp.nr rfl (Cq.wp.nr rfl k3)
 |nil c g=>
  have e:Χ k ⟨c,[],0,0,0,[],[],[],[]⟩=true:=by unfold Χ;rw[Ą (show c≠5 by omega),oH];rfl
  rw[e];have k2:(û ⟨⟨k⟩,⟨c,[],0,0,0,[],[],[],[]⟩⟩ true).Α true:=Cq.wp.yes rfl (by
   rcases g with rfl|rfl
   .exact⟨_,tC,rfl⟩
   exact⟨_,tC,rfl⟩)
  rcases g with rfl|rfl
  .exact Cq.wp.nr rfl (Cq.wp.nr rfl (Cq.wp.nr rfl (Cq.wp.yes rfl k2)))
  exact Cq.wp.nr rfl (Cq.wp.nr rfl (Cq.wp.nr rfl (Cq.wp.nr rfl k2)))
 |Hc o l y f=>
  have e:Χ k ⟨4,[],0,0,0,o,l,[],[]⟩=l.all λp=>fU p k.n 64:=by unfold Χ;rw[oH];simp
  rw[e];refine Cq.wp.nr rfl (Cq.wp.nr rfl (Cq.wp.nr rfl (Cq.wp.nr rfl (Cq.wp.nr rfl (Cq.wp.yes rfl ⟨true,E5 (kJ.of (kd.b (.inl y)).1),_,TL i f.1 f.2,?_⟩)))));cases l.all λp=>fU p k.n 64 with
  |false=>exact Cq.wp.nr rfl rfl
  |true=>exact Cq.wp.yes rfl ⟨_,tC,rfl⟩
 |BW n d j x=>
  have e:Χ k ⟨5,[],n,d,0,[],[],[],[]⟩=decide (d<=k.n):=by unfold Χ;rw[oH];simp
  rw[e];refine Cq.wp.nr rfl (Cq.wp.nr rfl (Cq.wp.nr rfl (Cq.wp.nr rfl (Cq.wp.nr rfl (Cq.wp.nr rfl (Cq.wp.yes rfl (Cq.wp.yes x.1 ?_)))))));by_cases a:d<=k.n
  .rw[Ą a];exact Cq.wp.yes a ⟨true,Cq.wp.yes j.1 (Ą (show n<=1000000 by omega)),Cq.wp.yes rfl ⟨_,tC,rfl⟩⟩
  rw[Č a];exact Cq.wp.no a rfl
 |HX n d r hr=>
  have e:Χ k ⟨6,[],n,d,r,[],[],[],[]⟩=true:=by unfold Χ;rw[oH];rfl
  rw[e];refine Cq.wp.nr rfl (Cq.wp.nr rfl (Cq.wp.nr rfl (Cq.wp.nr rfl (Cq.wp.nr rfl (Cq.wp.nr rfl (Cq.wp.nr rfl (Cq.wp.yes rfl ?_)))))));exact Cq.wp.yes hr.1 (Cq.wp.yes hr.2.1 (Cq.wp.yes hr.2.2.1 ⟨true,Cq.wp.yes (show 0<=n by omega) (Ą (show n<=1000000 by omega)),Cq.wp.yes rfl ⟨_,tC,rfl⟩⟩))
 |box b m=>
  have e:Χ k ⟨7,[],0,0,0,[],[],[],b⟩=b.all (ik k.n):=by unfold Χ;rw[oH];simp
  rw[e];refine Cq.wp.nr rfl (Cq.wp.nr rfl (Cq.wp.nr rfl (Cq.wp.nr rfl (Cq.wp.nr rfl (Cq.wp.nr rfl (Cq.wp.nr rfl (Cq.wp.nr rfl (Cq.wp.yes rfl ⟨_,SV i m,?_⟩))))))));cases b.all (ik k.n)with
  |false=>exact Cq.wp.nr rfl rfl
  |true=>exact Cq.wp.yes rfl ⟨_,tC,rfl⟩
 |sig p s b hp A f m=>
  have e:Χ k ⟨8,p,0,0,0,[],[],s,b⟩=(fU p k.n 12&&b.all (ik k.n)):=by unfold Χ;simp
  rw[e];refine Cq.wp.nr rfl (Cq.wp.nr rfl (Cq.wp.nr rfl (Cq.wp.nr rfl (Cq.wp.nr rfl (Cq.wp.nr rfl (Cq.wp.nr rfl (Cq.wp.nr rfl (Cq.wp.nr rfl (Cq.wp.yes rfl ⟨_,KA i hp 12,?_⟩)))))))));cases fU p k.n 12 with
  |false=>rfl
  |true=>
   refine⟨_,SV i m,?_⟩;cases b.all (ik k.n)with
   |false=>rfl
   |true=>exact Cq.wp.yes (show(s.length:Int)=(b.length:Int) by rw[f]) ⟨true,ZxQ A,Cq.wp.yes rfl ⟨_,tC,rfl⟩⟩
 |u4 l f=>
  have e:Χ k ⟨11,[],0,0,0,[],l,[],[]⟩=l.all λp=>fU p k.n 64:=by unfold Χ;rw[oH];simp
  rw[e];refine Cq.wp.nr rfl (Cq.wp.nr rfl (Cq.wp.nr rfl (Cq.wp.nr rfl (Cq.wp.nr rfl (Cq.wp.nr rfl (Cq.wp.nr rfl (Cq.wp.nr rfl (Cq.wp.nr rfl (Cq.wp.nr rfl (Cq.wp.yes rfl ⟨_,TL i f.1 f.2,?_⟩))))))))));cases l.all λp=>fU p k.n 64 with
  |false=>exact Cq.wp.nr rfl rfl
  |true=>exact Cq.wp.yes rfl ⟨_,tC,rfl⟩
 |zL c n g j=>
  have e:Χ k ⟨c,[],n,0,0,[],[],[],[]⟩=true:=by unfold Χ;rw[Ą (show c≠5 by omega),oH];rfl
  rw[e];have q:(ú ⟨⟨k⟩,⟨c,[],n,0,0,[],[],[],[]⟩⟩ true).Α true:=
   Cq.wp.yes rfl ⟨true,Cq.wp.yes j.1 (Ą (show n<=1000000 by omega)),Cq.wp.yes rfl ⟨_,tC,rfl⟩⟩
  rcases g with rfl|rfl
  .exact Cq.wp.nr rfl (Cq.wp.nr rfl (Cq.wp.nr rfl (Cq.wp.nr rfl (Cq.wp.nr rfl (Cq.wp.nr rfl (Cq.wp.nr rfl (Cq.wp.nr rfl (Cq.wp.nr rfl (Cq.wp.nr rfl (Cq.wp.nr rfl (Cq.wp.yes rfl q)))))))))))
  exact Cq.wp.nr rfl (Cq.wp.nr rfl (Cq.wp.nr rfl (Cq.wp.nr rfl (Cq.wp.nr rfl (Cq.wp.nr rfl (Cq.wp.nr rfl (Cq.wp.nr rfl (Cq.wp.nr rfl (Cq.wp.nr rfl (Cq.wp.nr rfl (Cq.wp.nr rfl q)))))))))))
end Go.EL

namespace Go.EL
open Go.IntKind (i8 i16 i32 i64 u8 u16 u32 u64)
open Go Go.RowKit
theorem Zvo{k:Zc}(h:ç k){c:Zh}(y:Æ c):(FP k c).Α (Χ k c):=by
 have m:=h.n;refine⟨true,Kz h,Cq.wp.nr rfl ?_⟩;have a:(xh [] k.n 12).Α true:=by have:=ED m (ω.of ĳ:ω []) 12;rwa [oH]at this
 cases y with
 |ie c p q hp=>
  have e:Χ k ⟨c,p,0,0,0,[],[],[],[]⟩=fU p k.n 12:=by unfold Χ;rw[Ą (show c≠5 by omega)];simp
  rw[e];refine Cq.wp.yes rfl (Cq.wp.yes rfl ⟨_,ED m hp 12,?_⟩);have k3:(AI k ⟨c,p,0,0,0,[],[],[],[]⟩ (decide ((0:Int)=0)) (fU p k.n 12) true).Α (fU p k.n 12):=by
   refine Cq.wp.yes rfl ?_;cases fU p k.n 12 with
   |false=>exact Cq.wp.nr rfl rfl
   |true=>exact Cq.wp.yes rfl (Cq.wp.yes rfl (Cq.wp.yes rfl (Cq.wp.yes rfl (Cq.wp.yes rfl rfl))))
  rcases q with rfl|rfl|rfl
  .exact Cq.wp.yes rfl k3
  .exact Cq.wp.nr rfl (Cq.wp.yes rfl k3)
  exact Cq.wp.nr rfl (Cq.wp.nr rfl k3)
 |nil c q=>
  have e:Χ k ⟨c,[],0,0,0,[],[],[],[]⟩=true:=by unfold Χ;rw[Ą (show c≠5 by omega),oH];rfl
  rw[e];refine Cq.wp.yes rfl (Cq.wp.yes rfl ⟨_,a,?_⟩);have k2:(EH k ⟨c,[],0,0,0,[],[],[],[]⟩ (decide ((0:Int)=0)) true true).Α true:=
   Cq.wp.yes rfl (Cq.wp.yes rfl (Cq.wp.yes rfl (Cq.wp.yes rfl (Cq.wp.yes rfl (Cq.wp.yes rfl rfl)))))
  rcases q with rfl|rfl
  .exact Cq.wp.nr rfl (Cq.wp.nr rfl (Cq.wp.nr rfl (Cq.wp.yes rfl k2)))
  exact Cq.wp.nr rfl (Cq.wp.nr rfl (Cq.wp.nr rfl (Cq.wp.nr rfl k2)))
 |Hc o l B j=>
  have e:Χ k ⟨4,[],0,0,0,o,l,[],[]⟩=l.all λp=>fU p k.n 64:=by unfold Χ;rw[oH];simp
  rw[e];refine Cq.wp.yes rfl (Cq.wp.yes rfl ⟨_,a,Cq.wp.nr rfl (Cq.wp.nr rfl (Cq.wp.nr rfl (Cq.wp.nr rfl (Cq.wp.nr rfl (Cq.wp.yes rfl ?_)))))⟩);exact Cq.wp.yes rfl (Cq.wp.yes rfl (Cq.wp.yes rfl (Cq.wp.yes rfl ⟨true,EX (kJ.of (kd.b (.inl B)).1),Cq.wp.yes (by have:=j.1;show(l.length:Int)<=64;omega) ⟨_,SL m j.1 j.2,rfl⟩⟩)))
 |BW n d t A=>
  have e:Χ k ⟨5,[],n,d,0,[],[],[],[]⟩=decide (d<=k.n):=by unfold Χ;rw[oH];simp
  rw[e];have g:∀v,(wY k ⟨5,[],n,d,0,[],[],[],[]⟩ v).Α (decide (d<=k.n)):=λv=>by
   refine⟨_,a,Cq.wp.nr rfl (Cq.wp.nr rfl (Cq.wp.nr rfl (Cq.wp.nr rfl (Cq.wp.nr rfl (Cq.wp.nr rfl (Cq.wp.yes rfl ?_))))))⟩;refine Cq.wp.yes rfl (Cq.wp.yes rfl (Cq.wp.yes rfl (Cq.wp.yes rfl (Cq.wp.yes rfl (Cq.wp.yes rfl (Cq.wp.yes A.1 ?_))))));by_cases i:d<=k.n
   .rw[Ą i];exact Cq.wp.yes i ⟨true,Cq.wp.yes t.1 (Ą (show n<=1000000 by omega)),rfl⟩
   rw[Č i];exact Cq.wp.no i rfl
  by_cases f:n=0
  .by_cases h2:d=0
   .exact Cq.wp.yes f (Cq.wp.yes h2 (g _))
   exact Cq.wp.yes f (Cq.wp.no h2 (g _))
  exact Cq.wp.no f (g _)
 |HX n d r hr=>
  have e:Χ k ⟨6,[],n,d,r,[],[],[],[]⟩=true:=by unfold Χ;rw[oH];rfl
  rw[e];have g:∀v,(wY k ⟨6,[],n,d,r,[],[],[],[]⟩ v).Α true:=λv=>by refine⟨_,a,Cq.wp.nr rfl (Cq.wp.nr rfl (Cq.wp.nr rfl (Cq.wp.nr rfl (Cq.wp.nr rfl (Cq.wp.nr rfl (Cq.wp.nr rfl (Cq.wp.yes rfl ?_)))))))⟩;exact Cq.wp.yes rfl (Cq.wp.yes rfl (Cq.wp.yes rfl (Cq.wp.yes rfl (Cq.wp.yes rfl ⟨true,Cq.wp.yes (show 0<=n by omega) (Ą (show n<=1000000 by omega)),Cq.wp.yes hr.1 (Cq.wp.yes hr.2.1 (Ą hr.2.2.1))⟩))))
  by_cases f:n=0
  .by_cases h2:d=0
   .exact Cq.wp.yes f (Cq.wp.yes h2 (g _))
   exact Cq.wp.yes f (Cq.wp.no h2 (g _))
  exact Cq.wp.no f (g _)
 |box b u=>
  have e:Χ k ⟨7,[],0,0,0,[],[],[],b⟩=b.all (ik k.n):=by unfold Χ;rw[oH];simp
  rw[e];refine Cq.wp.yes rfl (Cq.wp.yes rfl ⟨_,a,Cq.wp.nr rfl (Cq.wp.nr rfl (Cq.wp.nr rfl (Cq.wp.nr rfl (Cq.wp.nr rfl (Cq.wp.nr rfl (Cq.wp.nr rfl (Cq.wp.nr rfl (Cq.wp.yes rfl ?_))))))))⟩);exact Cq.wp.yes rfl (Cq.wp.yes rfl (Cq.wp.yes rfl (Cq.wp.yes rfl (Cq.wp.yes rfl ⟨_,R1 m u,rfl⟩))))
 |sig p s b hp C j u=>
  have e:Χ k ⟨8,p,0,0,0,[],[],s,b⟩=(fU p k.n 12&&b.all (ik k.n)):=by unfold Χ;simp
  rw[e];refine Cq.wp.yes rfl (Cq.wp.yes rfl ⟨_,ED m hp 12,Cq.wp.nr rfl (Cq.wp.nr rfl (Cq.wp.nr rfl (Cq.wp.nr rfl (Cq.wp.nr rfl (Cq.wp.nr rfl (Cq.wp.nr rfl (Cq.wp.nr rfl (Cq.wp.nr rfl (Cq.wp.yes rfl ?_)))))))))⟩);cases fU p k.n 12 with
  |false=>exact Cq.wp.nr rfl rfl
  |true=>
   refine Cq.wp.yes rfl (Cq.wp.yes rfl (Cq.wp.yes rfl (Cq.wp.yes rfl ⟨_,R1 m u,?_⟩)));cases b.all (ik k.n)with
   |false=>rfl
   |true=>exact Cq.wp.yes (show(s.length:Int)=(b.length:Int) by rw[j]) ⟨true,Zvs C,rfl⟩
 |u4 l j=>
  have e:Χ k ⟨11,[],0,0,0,[],l,[],[]⟩=l.all λp=>fU p k.n 64:=by unfold Χ;rw[oH];simp
  rw[e];refine Cq.wp.yes rfl (Cq.wp.yes rfl ⟨_,a,Cq.wp.nr rfl (Cq.wp.nr rfl (Cq.wp.nr rfl (Cq.wp.nr rfl (Cq.wp.nr rfl (Cq.wp.nr rfl (Cq.wp.nr rfl (Cq.wp.nr rfl (Cq.wp.nr rfl (Cq.wp.nr rfl (Cq.wp.yes rfl ?_))))))))))⟩);exact Cq.wp.yes rfl (Cq.wp.yes rfl (Cq.wp.yes rfl (Cq.wp.yes rfl (Cq.wp.yes rfl (Cq.wp.yes (by have:=j.1;show(l.length:Int)<=64;omega) ⟨_,SL m j.1 j.2,rfl⟩)))))
 |zL c n q t=>
  have e:Χ k ⟨c,[],n,0,0,[],[],[],[]⟩=true:=by unfold Χ;rw[Ą (show c≠5 by omega),oH];rfl
  rw[e];have x:(EG ⟨c,[],n,0,0,[],[],[],[]⟩ true).Α true:=
   Cq.wp.yes rfl (Cq.wp.yes rfl (Cq.wp.yes rfl (Cq.wp.yes rfl (Cq.wp.yes rfl (Cq.wp.yes rfl (Cq.wp.yes rfl (Cq.wp.yes rfl ⟨true,Cq.wp.yes t.1 (Ą (show n<=1000000 by omega)),rfl⟩)))))))
  have g:∀v,(wY k ⟨c,[],n,0,0,[],[],[],[]⟩ v).Α true:=λv=>by
   refine⟨_,a,?_⟩;rcases q with rfl|rfl
   .exact Cq.wp.nr rfl (Cq.wp.nr rfl (Cq.wp.nr rfl (Cq.wp.nr rfl (Cq.wp.nr rfl (Cq.wp.nr rfl (Cq.wp.nr rfl (Cq.wp.nr rfl (Cq.wp.nr rfl (Cq.wp.nr rfl (Cq.wp.nr rfl (Cq.wp.yes rfl x)))))))))))
   exact Cq.wp.nr rfl (Cq.wp.nr rfl (Cq.wp.nr rfl (Cq.wp.nr rfl (Cq.wp.nr rfl (Cq.wp.nr rfl (Cq.wp.nr rfl (Cq.wp.nr rfl (Cq.wp.nr rfl (Cq.wp.nr rfl (Cq.wp.nr rfl (Cq.wp.nr rfl x)))))))))))
  by_cases f:n=0
  .exact Cq.wp.yes f (Cq.wp.yes rfl (g _))
  exact Cq.wp.no f (g _)
end Go.EL

namespace Go.EL
open Go.IntKind (i8 i16 i32 i64 u8 u16 u32 u64)
open Go Go.RowKit
theorem SY{p q:Ö}(hp:ω p)(a:ω q):decide (ë p q=0)=decide (p=q):=by refine ũ.2 ⟨Bd hp.gv a.gv,?_⟩;rintro rfl;exact xx p
theorem S8{p q:Ö}(hp:ω p)(a:ω q):(ZU p q).Α (decide (p=q)):=by have:=E4 hp.gv a.gv;rwa [SY hp a]at this
theorem Sn{p q:Ö}(hp:ω p)(a:ω q):(ub p q).Α (decide (p=q)):=by have:=Ko hp.gv a.gv;rwa [SY hp a]at this
def oc(a b:Ord)(k:Nat):Bool:=decide (a[k]?=b[k]?)
theorem TZ{a b:Ord}(h:a.length=b.length):(List.range a.length).all (oc a b)=decide (a=b):=by
 rw[abK,Ć,ę];constructor
 .intro c;refine ŷ λk=>?_;by_cases d:k<a.length
  .exact ĥ (c k (ĺ.2 d))
  rw[ł ŉ,ł ŉ]
 rintro rfl k _;exact Ą rfl
theorem TY{a b:Ord}{k:Nat}(c:k<a.length)(d:k<b.length):oc a b k=decide (a[k]=b[k]):=by unfold oc;rw[ą c,ą d];exact ũ.2 ⟨λe=>ŧ e,λe=>đ some e⟩
theorem ZsJ{a b:Ord}(f:a.length<=1000):(Ey a b).Α (decide (a=b)):=by
 by_cases d:a.length=b.length
 .refine Cq.wp.no (λe=>e ŉ) ?_;rw[<-TZ d];refine xD (xL a.length f (oc a b) (λk c=>?_) ?_) rfl rfl
  .rw[TY c ŉ];refine Cq.wp.yes ŉ ⟨_,Λ c,_,Λ (show k<b.length by omega),?_⟩;by_cases e:a[k]=b[k]
   .rw[Ą e];exact Cq.wp.no (λh=>h e) rfl
   rw[Č e];exact Cq.wp.yes e rfl
  exact Cq.wp.no ŉ rfl
 refine Cq.wp.yes ŉ ?_;show _=_;rw[Č λe=>d (đ List.length e)]
theorem ZpO{a b:Ord}(f:a.length<=1000):(FZ a b).Α (decide (a=b)):=by
 by_cases d:a.length=b.length
 .refine Cq.wp.no (λe=>e ŉ) ?_;rw[<-TZ d];refine xD (xL a.length f (oc a b) (λk c=>?_) ?_) rfl rfl
  .rw[TY c ŉ];refine Cq.wp.yes ŉ ⟨_,Λ c,_,Λ (show k<b.length by omega),?_⟩;by_cases e:a[k]=b[k]
   .rw[Ą e];exact Cq.wp.no (λh=>h e) rfl
   rw[Č e];exact Cq.wp.yes e rfl
  exact Cq.wp.no ŉ rfl
 refine Cq.wp.yes ŉ ?_;show _=_;rw[Č λe=>d (đ List.length e)]
theorem Æ.parts{c:Zh}(h:Æ c):ω c.p/\kd c.o/\(0<=c.n/\c.n<=15)/\(0<=c.r/\c.r<=15)/\c.b.length<=3:=by
 have p0:ω []:=ω.of ĳ;have o0:kd []:=(fg.nil 0).o;have z:(0:Int)<=0/\(0:Int)<=15:=ĳ;have l0:([]:Ŀ (Ŀ Zl)).length<=3:=ĳ;cases h with
 |ie c p _ hp=>exact⟨hp,o0,z,z,l0⟩
 |nil c _=>exact⟨p0,o0,z,z,l0⟩
 |Hc o l f _=>exact⟨p0,.inl f,z,z,l0⟩
 |BW n d e _=>exact⟨p0,o0,e,z,l0⟩
 |HX n d r h=>exact⟨p0,o0,by show 0<=n/\n<=15;omega,by show 0<=r/\r<=15;omega,l0⟩
 |box b a=>exact⟨p0,o0,z,z,a.1⟩
 |sig p s b hp _ _ a=>exact⟨hp,o0,z,z,a.1⟩
 |u4 l _=>exact⟨p0,o0,z,z,l0⟩
 |zL c n _ e=>exact⟨p0,o0,by show 0<=n/\n<=15;omega,z,l0⟩
def mu(k:Zc)(q:Ze)(c:Zh):Bool:=
 if q.kind=1 then decide (c.kind=1\/c.kind=2)&&decide (q.p=c.p)
 else if q.kind=2 then decide (c.kind=3) || (decide (c.kind=2)&&decide (k.ε=[])&&decide (c.p=jd))
 else if q.kind=3 then decide (c.kind=4)&&decide (q.o=c.o)
 else if q.kind=4 then decide (c.kind=5)
 else if q.kind=5 then decide (c.kind=6)
 else if q.kind=6 then decide (c.kind=7)
 else if q.kind=7 then decide (c.kind=8)&&decide (q.p=c.p)
 else if q.kind=8 then decide (c.kind=9) || decide (c.kind=6) || (decide (c.kind=13)&&decide (1<=c.n))
 else if q.kind=9 then decide (c.kind=10)&&decide (q.p=c.p)
 else if q.kind=10 then decide (c.kind=11)else false
theorem ZT{α:Type}{p:Prop}[Decidable p]{A B:Cq α}{a b:α}(c:p->A.Α a)(h2:¬p->B.Α b):(if p then A else B).Α (if p then a else b):=by
 by_cases h:p
 .refine Cq.wp.yes h ?_;rw[ă h];exact c h
 refine Cq.wp.no h ?_;rw[ā h];exact h2 h
theorem pG{p:Prop}[Decidable p]{A:Cq Bool}{b:Bool}(h:A.Α b):(if p then A else Cq.ret false).Α (decide p&&b):=by
 by_cases hp:p
 .rw[Ą hp,ť];exact Cq.wp.yes hp h
 rw[Č hp,ŵ];exact Cq.wp.no hp rfl
theorem CP{α:Type}[DecidableEq α](l:Ŀ α):decide ((l.length:Int)=0)=decide (l=[]):=by
 cases l with
 |nil=>rfl
 |cons a l=>simp;omega
theorem QH{k:Zc}{q:Ze}(j:fg q){c:Zh}(g:Æ c):(Et k q c).Α (mu k q c):=by
 obtain⟨hp,i,_⟩:=g.parts;have f:(Cq.bind (ZU c.p q.p) λy=>Cq.ret y).Α (decide (q.p=c.p)):=by have:=S8 hp j.p;rw[show decide (c.p=q.p)=decide (q.p=c.p)from ũ.2 ⟨Eq.symm,Eq.symm⟩]at this;exact⟨_,this,rfl⟩
 have hr:(Cq.bind (Ey c.o q.o) λy=>Cq.ret y).Α (decide (q.o=c.o)):=by have:=ZsJ (b:=q.o) (show c.o.length<=1000 by have:=(kJ.of i.b.1).len;omega);rw[show decide (c.o=q.o)=decide (q.o=c.o)from ũ.2 ⟨Eq.symm,Eq.symm⟩]at this;exact⟨_,this,rfl⟩
 unfold mu;refine ZT (λ_=>?_) λ_=>ZT (λ_=>?_) λ_=>ZT (λ_=>pG hr) λ_=>ZT (λ_=>rfl) λ_=>ZT (λ_=>rfl) λ_=>ZT (λ_=>rfl) λ_=>ZT (λ_=>pG f) λ_=>ZT (λ_=>?_) λ_=>ZT (λ_=>pG f) λ_=>ZT (λ_=>rfl) λ_=>rfl
 .by_cases a:c.kind=1
  .rw[Ą (show c.kind=1\/c.kind=2 from .inl a),ť];exact Cq.wp.yes a f
  rw[show decide (c.kind=1\/c.kind=2)=decide (c.kind=2)from ũ.2 ⟨λh=>h.resolve_left a,.inr⟩];exact Cq.wp.no a (pG f)
 .refine⟨ü 1,(xO (n:=1) ĳ).2,jd,ql,?_⟩;by_cases h3:c.kind=3
  .rw[Ą h3,Ŭ];exact Cq.wp.yes h3 rfl
  rw[Č h3,Ľ,Bool.and_assoc,<-CP];exact Cq.wp.no h3 (pG (pG ⟨_,S8 hp Bx,rfl⟩))
 by_cases e:c.kind=9
 .rw[Ą e,Ŭ,Ŭ];exact Cq.wp.yes e rfl
 rw[Č e,Ľ];refine Cq.wp.no e ?_;by_cases d:c.kind=6
 .rw[Ą d,Ŭ];exact Cq.wp.yes d rfl
 rw[Č d,Ľ];exact Cq.wp.no d (pG rfl)
theorem Zrr{k:Zc}{q:Ze}(f:fg q){c:Zh}(g:Æ c):(Kf k q c).Α (mu k q c):=by
 obtain⟨hp,i,_⟩:=g.parts;refine⟨_,Sn f.p hp,?_⟩;have hr:(Cq.bind (FZ q.o c.o) λy=>Cq.ret y).Α (decide (q.o=c.o)):=⟨_,ZpO (show q.o.length<=1000 by have:=(kJ.of f.o.b.1).len;omega),rfl⟩;unfold mu;refine ZT (λ_=>?_) λ_=>ZT (λ_=>?_) λ_=>ZT (λ_=>pG hr) λ_=>ZT (λ_=>rfl) λ_=>ZT (λ_=>rfl) λ_=>ZT (λ_=>rfl) λ_=>ZT (λ_=>pG rfl) λ_=>ZT (λ_=>?_) λ_=>ZT (λ_=>pG rfl) λ_=>ZT (λ_=>rfl) λ_=>rfl
 .by_cases a:c.kind=1
  .rw[Ą (show c.kind=1\/c.kind=2 from .inl a),ť];exact Cq.wp.yes a rfl
  rw[show decide (c.kind=1\/c.kind=2)=decide (c.kind=2)from ũ.2 ⟨λh=>h.resolve_left a,.inr⟩];exact Cq.wp.no a (pG rfl)
 .by_cases h3:c.kind=3
  .rw[Ą h3,Ŭ];exact Cq.wp.yes h3 rfl
  rw[Č h3,Ľ,show(decide (c.kind=2)&&decide (k.ε=[])&&decide (c.p=jd))=(decide (k.ε=[])&&(decide (c.kind=2)&&decide (c.p=jd))) by rw[Bool.and_comm (decide (c.kind=2)),Bool.and_assoc],<-CP];exact Cq.wp.no h3 (pG (pG ⟨_,(xO (n:=1) ĳ).1,jd,qp,_,Sn hp Bx,rfl⟩))
 by_cases e:c.kind=9
 .rw[Ą e,Ŭ,Ŭ];exact Cq.wp.yes e rfl
 rw[Č e,Ľ];refine Cq.wp.no e ?_;by_cases d:c.kind=6
 .rw[Ą d,Ŭ];exact Cq.wp.yes d rfl
 rw[Č d,Ľ];exact Cq.wp.no d (pG rfl)
def mE(q:Ze)(c:Zh):Int×Int:=
 if q.kind=5 then(if c.kind=6 then(c.n,c.n)else if c.kind=12 then(0,c.n)else(0,-1))
 else if q.kind=8\/q.kind=6 then(if c.kind=6 then(c.r,c.r)else if c.kind=7\/c.kind=8 then((c.b.length:Int),(c.b.length:Int))else if c.kind=9 then(0,0)else if c.kind=13 then(c.n,-1)else if c.kind=12 then(0,c.n)else(0,-1))
 else(0,-1)
theorem Zu5(q:Ze)(c:Zh):(JQ q c).Α (mE q c):=by
 have e:(D6 c (decide (c.kind=8))).Α (if c.kind=8 then((c.b.length:Int),(c.b.length:Int))else if c.kind=9 then(0,0)else if c.kind=13 then(c.n,-1)else if c.kind=12 then(0,c.n)else(0,-1)):=by
  by_cases a:c.kind=8
  .rw[ă a];exact Cq.wp.yes (Ą a) rfl
  rw[ā a];exact Cq.wp.no (by simpa using a) (ZT (λ_=>rfl) λ_=>ZT (λ_=>rfl) λ_=>ZT (λ_=>rfl) λ_=>rfl)
 have k2:(D7 c true).Α (if c.kind=6 then(c.r,c.r)else if c.kind=7\/c.kind=8 then((c.b.length:Int),(c.b.length:Int))else if c.kind=9 then(0,0)else if c.kind=13 then(c.n,-1)else if c.kind=12 then(0,c.n)else(0,-1)):=by
  refine Cq.wp.yes rfl (ZT (λ_=>rfl) λ_=>?_);by_cases h7:c.kind=7
  .rw[ă (Or.inl h7)];refine Cq.wp.yes h7 ?_;rw[Ą h7];exact Cq.wp.yes rfl rfl
  refine Cq.wp.no h7 ?_;rw[show(if c.kind=7\/c.kind=8 then((c.b.length:Int),(c.b.length:Int))else if c.kind=9 then(0,0)else if c.kind=13 then(c.n,-1)else if c.kind=12 then(0,c.n)else(0,-1))=(if c.kind=8 then((c.b.length:Int),(c.b.length:Int))else if c.kind=9 then(0,0)else if c.kind=13 then(c.n,-1)else if c.kind=12 then(0,c.n)else(0,-1)) by simp only[h7,false_or]];exact e
 unfold mE;refine ZT (λ_=>ZT (λ_=>rfl) λ_=>ZT (λ_=>rfl) λ_=>rfl) λ_=>?_;by_cases a:q.kind=8
 .rw[ă (Or.inl a)];refine Cq.wp.yes a ?_;rw[Ą a];exact k2
 refine Cq.wp.no a ?_;by_cases d:q.kind=6
 .rw[ă (Or.inr d),Ą d];exact k2
 rw[ā ŉ,Č d];exact Cq.wp.no ĳ rfl
end Go.EL

namespace Go.EL
open Go.IntKind (i8 i16 i32 i64 u8 u16 u32 u64)
open Go Go.RowKit
theorem zA{α:Type}{p:Prop}[Decidable p]{A B:Cq α}{a b:α}(c:p->A.Α a)(h2:¬p->B.Α b):(if decide p=true then A else B).Α (if p then a else b):=by
 by_cases h:p
 .refine Cq.wp.yes (Ą h) ?_;rw[ă h];exact c h
 refine Cq.wp.no (by rw[Č h];decide) ?_;rw[ā h];exact h2 h
theorem ZtI(q:Ze)(c:Zh):(Kw q c).Α (mE q c):=by
 have i:(yI c true false).Α (if c.kind=6 then(c.n,c.n)else if c.kind=12 then(0,c.n)else(0,-1)):=
  Cq.wp.yes rfl (zA (λ_=>rfl) λ_=>Cq.wp.yes rfl (zA (λ_=>rfl) λ_=>Cq.wp.nr rfl (Cq.wp.nr rfl (Cq.wp.nr rfl (Cq.wp.nr rfl (Cq.wp.nr rfl (Cq.wp.nr rfl rfl)))))))
 have j:(yI c false false).Α (0,-1):=
  Cq.wp.nr rfl (Cq.wp.nr rfl (Cq.wp.nr rfl (Cq.wp.nr rfl (Cq.wp.nr rfl (Cq.wp.nr rfl (Cq.wp.nr rfl (Cq.wp.nr rfl (Cq.wp.nr rfl (Cq.wp.nr rfl (Cq.wp.nr rfl rfl))))))))))
 have g:(yI c false true).Α (if c.kind=12 then(0,c.n)else if c.kind=6 then(c.r,c.r)else if c.kind=7 then((c.b.length:Int),(c.b.length:Int))else if c.kind=8 then((c.b.length:Int),(c.b.length:Int))else if c.kind=9 then(0,0)else if c.kind=13 then(c.n,-1)else(0,-1)):=by refine Cq.wp.nr rfl (Cq.wp.nr rfl (Cq.wp.nr rfl (Cq.wp.yes rfl (zA (λ_=>rfl) λ_=>Cq.wp.yes rfl (zA (λ_=>rfl) λ_=>Cq.wp.yes rfl (ZT (λ_=>Cq.wp.yes rfl rfl) λ_=>?_))))));exact zA (λ_=>rfl) λ_=>Cq.wp.yes rfl (zA (λ_=>rfl) λ_=>Cq.wp.yes rfl (ZT (λ_=>rfl) λ_=>rfl))
 have h:(if c.kind=12 then(0,c.n)else if c.kind=6 then(c.r,c.r)else if c.kind=7 then((c.b.length:Int),(c.b.length:Int))else if c.kind=8 then((c.b.length:Int),(c.b.length:Int))else if c.kind=9 then(0,0)else if c.kind=13 then(c.n,-1)else(0,-1))=(if c.kind=6 then(c.r,c.r)else if c.kind=7\/c.kind=8 then((c.b.length:Int),(c.b.length:Int))else if c.kind=9 then(0,0)else if c.kind=13 then(c.n,-1)else if c.kind=12 then(0,c.n)else(0,-1)):=by
  by_cases a:c.kind=12
  .simp[a]
  by_cases h7:c.kind=7
  .simp[h7]
  simp[a,h7]
 rw[h]at g;unfold mE;by_cases f:q.kind=8
 .refine Cq.wp.yes f ?_;rw[ā ŉ,ă (Or.inl f),Č ŉ];exact g
 refine Cq.wp.no f ?_;by_cases d:q.kind=5
 .rw[ă d,Ą d,Č ŉ];exact i
 rw[ā d,Č d];by_cases e:q.kind=6
 .rw[ă (Or.inr e),Ą e];exact g
 rw[ā ŉ,Č e];exact j
def oB(a b:Int):Int:=if a<b then b else a
def lr(a b:Int):Int:=if 0<=b then(if a<0 then b else if b<a then b else a)else a
theorem WG{a b:Int}(c:0<=b)(d:a<0):lr a b=b:=by unfold lr;rw[if_pos c,if_pos d]
theorem yd{a b:Int}(c:0<=b)(d:¬a<0)(h2:b<a):lr a b=b:=by unfold lr;rw[if_pos c,if_neg d,if_pos h2]
theorem WH{a b:Int}(c:0<=b)(d:¬a<0)(h2:¬b<a):lr a b=a:=by unfold lr;rw[if_pos c,if_neg d,if_neg h2]
theorem WI{a b:Int}(c:¬0<=b):lr a b=a:=by unfold lr;rw[if_neg c]
def eW(t:Zd)(c:Zh):Zd:=⟨t.id,t.k,t.q,t.ο,oB t.low (mE t.q c).1,lr t.high (mE t.q c).2,t.done || mu t.k t.q c⟩
theorem R9(c:Zh)(t:Zd):(Eh c t).Α ⟨t.id,t.k,t.q,t.ο,oB t.low (mE t.q c).1,lr t.high (mE t.q c).2,t.done⟩:=by
 refine⟨_,Zu5 t.q c,?_⟩;by_cases a:0<=(mE t.q c).2
 .by_cases d:t.high<0
  .rw[WG a d];exact Cq.wp.yes a (Cq.wp.yes d rfl)
  by_cases h2:(mE t.q c).2<t.high
  .rw[yd a d h2];exact Cq.wp.yes a (Cq.wp.no d (Cq.wp.yes h2 rfl))
  rw[WH a d h2];exact Cq.wp.yes a (Cq.wp.no d (Cq.wp.no h2 rfl))
 rw[WI a];exact Cq.wp.no a rfl
theorem Zxp{t:Zd}(d:fg t.q){c:Zh}(a:Æ c):(KH t c).Α (eW t c):=by
 refine⟨_,QH d a,?_⟩;unfold eW;cases mu t.k t.q c with
 |true=>rw[aa2];exact Cq.wp.yes rfl (R9 c _)
 |false=>rw[abV];exact Cq.wp.nr rfl (R9 c _)
theorem Ry(b:Int×Int)(t:Zd):(Ew b t).Α ⟨t.id,t.k,t.q,t.ο,oB t.low b.1,lr t.high b.2,t.done⟩:=by
 by_cases a:0<=b.2
 .by_cases c:t.high<0
  .rw[WG a c];exact Cq.wp.yes a (Cq.wp.yes c rfl)
  by_cases h2:b.2<t.high
  .rw[yd a c h2];exact Cq.wp.yes a (Cq.wp.no c (Cq.wp.yes h2 rfl))
  rw[WH a c h2];exact Cq.wp.yes a (Cq.wp.no c (Cq.wp.no h2 rfl))
 rw[WI a];exact Cq.wp.no a rfl
theorem Zrw{t:Zd}(e:fg t.q){c:Zh}(d:Æ c):(Kx t c).Α (eW t c):=by
 refine⟨_,ZtI t.q c,?_⟩;unfold eW;by_cases a:t.done=true
 .refine Cq.wp.yes a ?_;rw[a,Ŭ];exact Ry _ _
 refine Cq.wp.no a ⟨_,Zrr e d,?_⟩;rw[show t.done=false by simpa using a,Ľ];exact Ry _ _
theorem xC(l:Ŀ Zh)(t:Zd):(l.foldl eW t).id=t.id/\(l.foldl eW t).k=t.k/\(l.foldl eW t).q=t.q/\(l.foldl eW t).ο=t.ο:=by
 induction l generalizing t with
 |nil=>exact⟨rfl,rfl,rfl,rfl⟩
 |cons c l e=>
  obtain⟨a,h2,h3,d⟩:=e (eW t c);exact⟨a,h2,h3,d⟩
def gM(id tried:Int)(t:Zd):Zd:=if t.id=id then⟨t.id,t.k,t.q,if t.ο<tried+1 then tried+1 else t.ο,t.low,t.high,t.done⟩else t
def stepT(k:Zc)(id:Int)(l:Ŀ Zh)(tried:Int)(t:Zd):Zd:=gM id tried (if ø t.k=ø k then l.foldl eW t else t)
def gA(B:Zb)(id:Int)(l:Ŀ Zh)(tried:Int):Zb×Int:=
 if(í B.t id).2=false then(⟨[],0⟩,380)
 else if tried<0\/12<tried then(⟨[],0⟩,1)
 else if l.all (Χ (í B.t id).1.k)=true then(⟨B.t.map (stepT (í B.t id).1.k id l tried),B.next⟩,0)
 else(⟨[],0⟩,1)
end Go.EL

namespace Go.EL
open Go.IntKind (i8 i16 i32 i64 u8 u16 u32 u64)
open Go Go.RowKit
theorem ZsZ{l:Ŀ Zd}(a:l.length<=1000):(Z3 l).Α l:=
 ⟨λe=>by subst e;rfl,by rw[ļ];simp only[small];omega,ļ l⟩
theorem FA{l:Ŀ Zd}{id:Int}(h:(í l id).2=true):(í l id).1∈l/\(í l id).1.id=id:=by
 unfold í at h⊢;cases a:l.find? λt=>decide (t.id=id)with
 |none=>rw[a]at h;cases h
 |some t=>exact⟨eu a,by simpa using aan a⟩
theorem U3{α:Type}{E:α}(l:Ŀ Zh)(q:l.length<=1000)(f:Zh->Bool)(X:Zb){step:Int×Zb->Cq ((Int×Zb)⊕(α⊕Zb))}
  (h:∀k (g:k<l.length),(step ((k:Int),X)).wp λo=>o=if f l[k]=true then .inl (i64.wrap ((k:Int)+1),X)else .inr (.inl E))
  (a:(step ((l.length:Int),X)).wp λo=>o=.inr (.inr X)):(Cq.loop step (0,X)).wp λo=>o=if l.all f=true then .inr X else .inl E:=by
 refine Cq.Zn l.length (λk s=>s=((k:Int),X)/\∀i (hi:i<l.length),i<k->f l[i]=true) (λk s g m=>?_) (λs m=>?_) ⟨rfl,λi _ hi=>absurd hi (ı _)⟩
 .obtain⟨rfl,d⟩:=m
  refine(step _).mono (λo j=>?_) (h k g)
  subst j
  by_cases c:f l[k]=true
  .rw[ă c]
   refine⟨by rw[ψ ŉ],λi hi n=>?_⟩
   by_cases e:i=k
   .subst e;exact c
   exact d i hi ŉ
  rw[ā c]
  show _=_
  rw[ā λe=>c (Ć.1 e _ (Ă g))]
 obtain⟨rfl,d⟩:=m
 refine(step _).mono (λo j=>?_) a
 subst j
 show _=_
 rw[ă (Ć.2 λx p=>by obtain⟨i,hi,rfl⟩:=ž p;exact d i hi hi)]
theorem ZyB{l:Ŀ Zh}(g:l.length<=1000)(e:∀c∈l,Æ c){t:Zd}(f:fg t.q):(P1 l (0,t)).Α (l.foldl eW t):=by
 refine Cq.Zn l.length (λk s=>s=((k:Int),(l.take k).foldl eW t)) (λk s a d=>?_) (λs d=>?_) rfl
 .subst d;refine Cq.wp.yes ŉ ⟨_,Λ a,_,Zxp (by rw[(xC _ t).2.2.1];exact f) (e _ (Ă a)),?_⟩;show _=_;rw[ψ ŉ,Ĉ a,aaG];rfl
 subst d;refine Cq.wp.no ŉ ?_;rw[Ĥ];exact rfl
theorem Zwr{l:Ŀ Zh}(j:l.length<=1000)(g:∀c∈l,Æ c){t own:Zd}(i:fg t.q)(a:jR t.k)(h:jR own.k)(b:Bool):(Qu l (own,b) (0,t)).Α (if ø t.k=ø own.k then l.foldl eW t else t):=by
 have d:=Fx a h;by_cases e:ø t.k=ø own.k
 .rw[ă e];rw[Ą e]at d;refine Cq.Zn l.length (λk s=>s=((k:Int),(l.take k).foldl eW t)) (λk s a oz=>?_) (λs oz=>?_) rfl
  .subst oz;refine Cq.wp.yes ŉ ⟨true,by rw[(xC _ t).2.1];exact d,Cq.wp.yes rfl ⟨_,Λ a,_,Zrw (by rw[(xC _ t).2.2.1];exact i) (g _ (Ă a)),?_⟩⟩;show _=_;rw[ψ ŉ,Ĉ a,aaG];rfl
  subst oz;refine Cq.wp.no ŉ ?_;rw[Ĥ];exact rfl
 rw[ā e];rw[Č e]at d;refine Cq.Zt ?_;by_cases f:(0:Int)<(l.length:Int)
 .exact Cq.wp.yes f ⟨false,d,Cq.wp.nr rfl rfl⟩
 exact Cq.wp.no f rfl
theorem Tz{id tried:Int}(f:0<=tried/\tried<=12){T:Ŀ Zd}{k:Nat}(a:k<T.length)(d:T.length<=1000)(n:Int)(t:Zd):(yO id tried T (k:Int) n t).wp λo=>o=.inl (T.set k (gM id tried t),((k+1:Nat):Int),n):=by
 unfold gM;have c:i64.wrap (tried+1)=tried+1:=wrap64 ŉ;by_cases e:t.id=id
 .rw[ă e];refine Cq.wp.yes e ⟨_,Λ a,?_⟩;show _=_;rw[ψ ŉ,c,Ē]
 rw[ā e];refine Cq.wp.no e ⟨_,Λ a,?_⟩;show _=_;rw[ψ ŉ,Ē]
theorem Zwp{id tried:Int}(f:0<=tried/\tried<=12){T:Ŀ Zd}{k:Nat}(d:k<1000)(c:T.length<=1000)(n:Int)(t:Zd):(JN id tried (k:Int) T n t).wp λo=>o=.inl (((k+1:Nat):Int),T++[gM id tried t],n):=by
 unfold gM;have a:i64.wrap (tried+1)=tried+1:=wrap64 ŉ;have k3:∀u,(EK (k:Int) T n u).wp λo=>o=.inl (((k+1:Nat):Int),T++[u],n):=λu=>by refine⟨by rw[Ā];simp only[small,ė];omega,?_⟩;show _=_;rw[ψ ŉ]
 by_cases e:t.id=id
 .rw[ă e];refine Cq.wp.yes e ?_;rw[a];exact k3 _
 rw[ā e];exact Cq.wp.no e (k3 _)
theorem ZAs{f:Zd->Zd}{T:Ŀ Zd}{k:Nat}(a:k<T.length):((T.take k).map f++T.drop k).length=T.length/\((T.take k).map f++T.drop k)[k]?=some T[k]/\((T.take k).map f++T.drop k).set k (f T[k])=(T.take (k+1)).map f++T.drop (k+1):=by
 have c:((T.take k).map f).length=k:=by rw[ć,č];omega
 refine⟨by rw[Ā,c,ľ];omega,?_,?_⟩
 .rw[ģ ŉ,c,aaC,Ũ];exact ą a
 rw[List.set_append,ā ŉ,c,aaC,ĭ a,abb,Ĉ a,Ī,Đ];rfl
section
variable {B:Zb}{id:Int}{l:Ŀ Zh}{tried:Int}
theorem uP(h:(í B.t id).2=false):gA B id l tried=(⟨[],0⟩,380):=by unfold gA;rw[if_pos h]
theorem q0(h:(í B.t id).2=true)(a:tried<0\/12<tried):gA B id l tried=(⟨[],0⟩,1):=by unfold gA;rw[if_neg (by rw[h];decide),if_pos a]
theorem yg(h:(í B.t id).2=true)(a:¬(tried<0\/12<tried))(h2:l.all (Χ (í B.t id).1.k)=false):gA B id l tried=(⟨[],0⟩,1):=by unfold gA;rw[if_neg (by rw[h];decide),if_neg a,if_neg (by rw[h2];decide)]
theorem oZ(h:(í B.t id).2=true)(a:¬(tried<0\/12<tried))(h2:l.all (Χ (í B.t id).1.k)=true):gA B id l tried=(⟨B.t.map (stepT (í B.t id).1.k id l tried),B.next⟩,0):=by unfold gA;rw[if_neg (by rw[h];decide),if_neg a,if_pos h2]
end
theorem tB{B:Zb}(h:ä B)(F:B.t.length<=1000)(id:Int){l:Ŀ Zh}(y:l.length<=1000)(x:∀c∈l,Æ c)(tried:Int):(rp B id l tried).Α (gA B id l tried):=by
 refine⟨_,(AX F id).1,?_⟩;cases d:(í B.t id).2 with
 |false=>rw[uP d];exact Cq.wp.yes (by rw[d];rfl) rfl
 |true=>
  refine Cq.wp.no (by rw[d];decide) ?_;obtain⟨H,G⟩:=FA d;have m:=(h.can _ H).ck.1.ok;by_cases q:tried<0
  .rw[q0 d (Or.inl q)];exact Cq.wp.yes q rfl
  by_cases h2:12<tried
  .rw[q0 d (Or.inr h2)];exact Cq.wp.no q (Cq.wp.yes h2 rfl)
  have j:¬(tried<0\/12<tried):=ŉ;have J:=yg (l:=l) d j;have K:=oZ (l:=l) d j;generalize A:í B.t id=own at *;refine Cq.wp.no q (Cq.wp.no h2 ?_);show(Cq.next _ _).wp _;have key:=U3 (E:=((⟨[],0⟩:Zb),(1:Int))) l y (Χ own.1.k) ⟨[],0⟩ (step:=λD=>match D with|(a,i)=>if a<(l.length:Int)then(Cq.Θ l a λL=>Cq.bind (EY own.1.k L) λu=>if(!u)=true then(Cq.ret (.inr (.inl ((Zb.mk [] 0),1))))else(Cq.ret (.inl (i64.wrap (a+1),i))))else(Cq.ret (.inr (.inr i)))) (λk g=>by
   refine Cq.wp.yes ŉ ⟨_,Λ g,_,Zob m (x _ (Ă g)),?_⟩;cases Χ own.1.k l[k]with
   |false=>exact Cq.wp.yes rfl rfl
   |true=>exact Cq.wp.nr rfl rfl) (Cq.wp.no ŉ rfl)
  refine Cq.eT key ?_;cases hr:l.all (Χ own.1.k)with
  |false=>rw[J hr];exact rfl
  |true=>
   rw[K hr];refine⟨_,zo m,_,ZsZ ŉ,?_⟩;show(Cq.next _ _).wp _;refine Cq.Zn B.t.length (λk s=>s=((B.t.take k).map (stepT own.1.k id l tried)++B.t.drop k,(k:Int),B.next)) (λk s g t=>?_) (λs t=>?_) (by show _=_;simp)
   .subst t;obtain⟨C,I,n⟩:=ZAs (f:=stepT own.1.k id l tried) g;have v:=h.can _ (Ă g);refine Cq.wp.yes ŉ ⟨B.t[k],⟨ŉ,by rw[Ē];exact I⟩,_,zo v.ck.1.ok,?_⟩;have e:stepT own.1.k id l tried B.t[k]=gM id tried (if ø B.t[k].k=ø own.1.k then l.foldl eW B.t[k]else B.t[k]):=rfl;rw[e]at n;by_cases p:ø B.t[k].k=ø own.1.k
    .rw[ă p]at n;refine Cq.wp.yes p (Cq.eT (ZyB y x v.cq) ?_);refine Cq.mono (yO _ _ _ _ _ _) (λo r=>?_) (Tz ŉ (by rw[C];exact g) ŉ B.next _);subst r;show _=_;rw[n]
    rw[ā p]at n;refine Cq.wp.no p ?_;refine Cq.mono (yO _ _ _ _ _ _) (λo r=>?_) (Tz ŉ (by rw[C];exact g) ŉ B.next _);subst r;show _=_;rw[n]
   subst t;refine Cq.wp.no ŉ ?_;rw[Ĥ,aaj,Ě];exact rfl
theorem Zvm{B:Zb}(h:ä B)(v:B.t.length<=1000)(id:Int){l:Ŀ Zh}(r:l.length<=1000)(q:∀c∈l,Æ c)(tried:Int):(K3 B id l tried).Α (gA B id l tried):=by
 refine⟨_,(AX v id).2,?_⟩;cases d:(í B.t id).2 with
 |false=>rw[uP d];exact Cq.wp.yes (by rw[d];rfl) rfl
 |true=>
  refine Cq.wp.no (by rw[d];decide) ?_;obtain⟨y,x⟩:=FA d;have i:=(h.can _ y).ck.1.ok;by_cases j:tried<0
  .rw[q0 d (Or.inl j)];exact Cq.wp.yes j rfl
  by_cases h2:12<tried
  .rw[q0 d (Or.inr h2)];exact Cq.wp.no j (Cq.wp.yes h2 rfl)
  have g:¬(tried<0\/12<tried):=ŉ;have C:=yg (l:=l) d g;have D:=oZ (l:=l) d g;generalize t:í B.t id=own at *;refine Cq.wp.no j (Cq.wp.no h2 ?_);show(Cq.next _ _).wp _;have key:=U3 (E:=((⟨[],0⟩:Zb),(1:Int))) l r (Χ own.1.k) ⟨[],0⟩ (step:=λu=>match u with|(a,f)=>if a<(l.length:Int)then(Cq.Θ l a λF=>Cq.bind (FP own.1.k F) λn=>if(!n)=true then(Cq.ret (.inr (.inl ((Zb.mk [] 0),1))))else(Cq.ret (.inl (i64.wrap (a+1),f))))else(Cq.ret (.inr (.inr f)))) (λk e=>by
   refine Cq.wp.yes ŉ ⟨_,Λ e,_,Zvo i (q _ (Ă e)),?_⟩;cases Χ own.1.k l[k]with
   |false=>exact Cq.wp.yes rfl rfl
   |true=>exact Cq.wp.nr rfl rfl) (Cq.wp.no ŉ rfl)
  refine Cq.eT key ?_;cases hr:l.all (Χ own.1.k)with
  |false=>rw[C hr];exact rfl
  |true=>
   rw[D hr];show(Cq.next _ _).wp _;refine Cq.Zn B.t.length (λk s=>s=((k:Int),(B.t.take k).map (stepT own.1.k id l tried),B.next)) (λk s e m=>?_) (λs m=>?_) (by show _=_;simp)
   .subst m;have p:=h.can _ (Ă e);refine Cq.wp.yes ŉ ⟨_,Λ e,Cq.eT (Zwr (own:=own.1) r q p.cq p.ck.1.ok.rh i.rh own.2) ?_⟩;refine Cq.mono (JN _ _ _ _ _ _) (λo A=>?_) (Zwp ŉ ŉ (by rw[ć,č];omega) B.next _);subst A;show _=_;rw[Ĉ e,Ī];rfl
   subst m;refine Cq.wp.no ŉ ?_;rw[Ĥ];exact rfl
end Go.EL

namespace Go.EL
open Go.IntKind (i8 i16 i32 i64 u8 u16 u32 u64)
open Go Go.RowKit
theorem Zwi{l:Ŀ Zu}(h:∀y∈l,jh y):∃m:Ŀ Ö,(LG l 2 2 3 6).Α m/\m.length<=6/\∀p∈m,ω p:=by
 refine⟨(l.take 6).map λy=>iK y 2 2 3,?_,by rw[ć,č];omega,λp hp=>?_⟩
 .have a:(Rn ((l.take (min l.length 6)).map λy=>iK y 2 2 3)).Α ((l.take 6).map λy=>iK y 2 2 3):=by
   have e:l.take (min l.length 6)=l.take 6:=by
    by_cases f:l.length<=6
    .rw[ż f,Ę (ĉ _),Ę f]
    rw[Nat.min_eq_right ŉ]
   rw[e];exact rfl
  refine Cq.Zn (min l.length 6) (λk s=>s=((l.take k).map (λy=>iK y 2 2 3),(k:Int))) (λk s j g=>?_) (λs g=>?_) rfl
  .subst g;have c:k<l.length:=ŉ;refine Cq.wp.yes ŉ (Cq.wp.yes ŉ ⟨_,Λ c,_,LB (h _ (Ă c)) (n:=2) ĳ ĳ ĳ (k:=3) ĳ,?_,?_⟩)
   .simp only[Ā,ć,č,ė,small];omega
   show _=_;rw[ψ ŉ,Ĉ c,Ī];rfl
  subst g;by_cases f:l.length<=6
  .exact Cq.wp.no ŉ a
  exact Cq.wp.yes ŉ (Cq.wp.no ŉ a)
 obtain⟨y,i,rfl⟩:=ğ.1 hp;exact(LV (h y (Ŝ i)) (n:=2) ĳ (d:=2) ĳ ĳ (k:=3) ĳ).1
def ix(l:Ŀ Ö)(k:Nat):Ö:=if h:0<l.length then l[k % l.length]'(aad _ h)else[]
theorem Uo{l:Ŀ Ö}(h:∀p∈l,ω p)(k:Nat):ω (ix l k):=by
 unfold ix;split
 .exact h _ (Ă _)
 exact ω.of ĳ
theorem T6(a b:Nat):Int.tmod (a:Int) (b:Int)=((a % b:Nat):Int):=by rw[Ŗ ŉ];rfl
theorem Up{l:Ŀ Ö}(p:l.length<=6)(k n:Nat)(m:k<=2)(q:n<=3):(xA l (k:Int) (n:Int)).Α ((List.range n).map λi=>ix l (k+i)):=by
 show(Cq.next _ _).wp _;refine Cq.Zn n (λj s=>s=((List.range j).map (λi=>ix l (k+i)),(j:Int))) (λj s h d=>?_) (λs d=>?_) rfl
 .subst d;have a:∀x:Ö,((List.range j).map (λi=>ix l (k+i))++[x]).length<=small:=λx=>by simp only[Ā,ć,ź,ė,small];omega
  have next:∀x:Ö,x=ix l (k+j)->((List.range j).map (λi=>ix l (k+i))++[x],i64.wrap ((j:Int)+1))=((List.range (j+1)).map (λi=>ix l (k+i)),((j+1:Nat):Int)):=λx f=>by rw[ψ ŉ,aao,Ī,f];rfl
  refine Cq.wp.yes ŉ ?_;by_cases g:l.length=0
  .refine Cq.wp.yes ŉ ⟨a _,next _ ?_⟩;unfold ix;rw[dif_neg ŉ]
  have c:(k+j) % l.length<l.length:=aad _ ŉ;have e:Int.tmod (i64.wrap ((k:Int)+(j:Int))) (l.length:Int)=(((k+j) % l.length:Nat):Int):=by rw[wrap64 ŉ,<-T6];congr 1
  refine Cq.wp.no ŉ ⟨ŉ,_,by rw[e];exact Λ c,a _,next _ ?_⟩;unfold ix;rw[Ŷ ŉ]
 subst d;exact Cq.wp.no ŉ rfl
theorem ZyR{l:Ŀ Ö}(h:∀p∈l,ω p)(k n:Nat)(a:n<=3):rR ((List.range n).map λi=>ix l (k+i)):=
 ⟨by rw[ć,ź];exact a,λp hp=>by obtain⟨i,_,rfl⟩:=ğ.1 hp;exact Uo h _⟩
def eY(v:Ŀ Int)(k:Nat):Int:=(v[k % v.length]?).getD 0
theorem zm{v:Ŀ Int}(h:∀x∈v,gR x)(k:Nat):gR (eY v k):=by
 unfold eY;cases e:v[k % v.length]? with
 |none=>show gR 0;decide
 |some x=>exact h x (ń e)
theorem vA{v:Ŀ Int}(h:∀x∈v,gR x)(k:Nat):(ud v (k:Int)).Α (eY v k):=by
 by_cases c:v.length=0
 .refine Cq.wp.yes ŉ ?_;show _=_;unfold eY;rw[ł ŉ];rfl
 have a:k % v.length<v.length:=aad _ ŉ;refine Cq.wp.no ŉ ⟨ŉ,_,by rw[T6];exact Λ a,?_⟩;show _=_;have:=h _ (Ă a);unfold eY;rw[ą a,wrap64 ŉ];rfl
def n7(y:Int):Int:=i64.wrap (BitVec.ofInt i64.bits y &&& BitVec.ofInt i64.bits 7).toNat
def n3(y:Int):Int:=i64.wrap (BitVec.ofInt i64.bits (n7 y) &&& BitVec.ofInt i64.bits 3).toNat
def n15(y:Int):Int:=i64.wrap (BitVec.ofInt i64.bits y &&& BitVec.ofInt i64.bits 15).toNat
def wB(y:Int):Int:=i64.wrap ((Int.tmod (i64.wrap (BitVec.ofInt i64.bits y &&& BitVec.ofInt i64.bits 127).toNat) 3)-1)
structure rV (y:Int):Prop where
 h7:0<=n7 y/\n7 y<=7
 h3:0<=n3 y/\n3 y<=3
 oU:0<=n15 y/\n15 y<=15
 sg:-1<=wB y/\wB y<=1
 w8:i8.wrap (n7 y)=n7 y/\i8.wrap y=y
 dm:i64.wrap (n3 y-1)=n3 y-1
 pt:0<=i64.wrap (Int.tdiv (n7 y) 2)/\i64.wrap (Int.tdiv (n7 y) 2)<=i64.wrap (n7 y-i64.wrap (Int.tdiv (n7 y) 3))/\i64.wrap (n7 y-i64.wrap (Int.tdiv (n7 y) 3))<=n7 y
def tc(y:Int):Bool:=decide (0<=n7 y/\n7 y<=7)&&decide (0<=n3 y/\n3 y<=3)&&decide (0<=n15 y/\n15 y<=15)&&decide (-1<=wB y/\wB y<=1)&&decide (i8.wrap (n7 y)=n7 y/\i8.wrap y=y)&&decide (i64.wrap (n3 y-1)=n3 y-1)&&decide (0<=i64.wrap (Int.tdiv (n7 y) 2)/\i64.wrap (Int.tdiv (n7 y) 2)<=i64.wrap (n7 y-i64.wrap (Int.tdiv (n7 y) 3))/\i64.wrap (n7 y-i64.wrap (Int.tdiv (n7 y) 3))<=n7 y)
theorem ZxR:á (-128) 127 tc=true:=by decide +kernel
theorem A3{y:Int}(h:gR y):rV y:=by have:=Zr ZxR h.1 h.2;unfold tc at this;simp only[Ċ,ę]at this;obtain⟨⟨⟨⟨⟨⟨a,b⟩,c⟩,d⟩,e⟩,f⟩,g⟩:=this;exact⟨a,b,c,d,e,f,g⟩
def mF(v:Ŀ Int)(k:Nat):Ŀ Zl:=nk (eY v k) (eY v (k+1)) (n7 (eY v k))
theorem Lv{v:Ŀ Int}(h:∀x∈v,gR x)(k:Nat)(p:k<=3):(Ma v (k:Int)).Α (mF v k)/\nT (mF v k):=by
 have p0:=zm h k;have p1:=zm h (k+1);have a:=A3 p0;have j:=A3 p1;refine⟨?_,_,_,_,p0,p1,a.h7,rfl⟩;have l:nQ 0=(0,1):=by decide +kernel
 have m:oV 0 0=(0,1):=by decide +kernel
 have w1:(ZX 0).Α (Μ (nQ 0)):=by rw[l];exact(xO (n:=0) ĳ).1
 have w2:(ZX 0).Α (Μ (oV 0 0)):=by rw[m];exact(xO (n:=0) ĳ).1
 have first:(RW (0,List.replicate 8 (Zl.mk (Zf.mk (Zg.mk false []) (Zg.mk false [])) (Zf.mk (Zg.mk false []) (Zg.mk false []))))).Α (List.replicate 8 (mj 0 0)):=by
  iterate 8
   refine Cq.Zt (Cq.wp.yes ĳ ⟨_,w1,_,w2,_,⟨ĳ,rfl⟩,?_⟩)
   show(Cq.loop _ _).wp _
  exact Cq.Zt (Cq.wp.no ĳ rfl)
 refine Cq.eT first ?_
 show(Cq.next _ _).wp _;have d:=Zxf a.h7;have e:i64.wrap ((k:Int)+0)=(k:Int):=by rw[wrap64 ŉ];omega
 have f:∀i:Nat,i<=1->i64.wrap ((k:Int)+(i:Int))=((k+i:Nat):Int):=λi hi=>by rw[wrap64 ŉ];rfl
 have c:∀y,rV y->i8.wrap (i64.wrap (BitVec.ofInt i64.bits y &&& BitVec.ofInt i64.bits 7).toNat)=n7 y:=λy s=>s.w8.1;have g:(RU v (k:Int) (0,List.replicate 8 (mj 0 0))).Α (mF v k):=by refine Cq.Zt (Cq.wp.yes ĳ ⟨_,by rw[e];exact vA h k,_,by rw[a.w8.2];exact UI p0,_,vA h k,_,by rw[c _ a];exact d,_,UF p0 a.h7,_,⟨ĳ,rfl⟩,?_⟩);show(Cq.loop _ _).wp _;refine Cq.Zt (Cq.wp.yes ĳ ⟨_,by have:=f 1 ĳ;rw[show((1:Nat):Int)=i64.wrap (0+1)from rfl]at this;rw[this];exact vA h (k+1),_,by rw[j.w8.2];exact UI p1,_,vA h k,_,by rw[c _ a];exact d,_,UF p1 a.h7,_,⟨ĳ,rfl⟩,?_⟩);show(Cq.loop _ _).wp _;exact Cq.Zt (Cq.wp.no ĳ rfl)
 exact g
end Go.EL

namespace Go.EL
open Go.IntKind (i8 i16 i32 i64 u8 u16 u32 u64)
open Go Go.RowKit
structure jM (x:ZM):Prop where
 kind:0<=x.kind/\x.kind<=255
 l:∀y∈x.l,jh y
 v:∀z∈x.v,gR z
theorem R3{v:Ŀ Int}(h:∀z∈v,gR z){N:Nat}(a:N<=3):ku ((List.range N).map (mF v)):=
 ⟨by rw[ć,ź];exact a,λb c=>by
  obtain⟨i,hi,rfl⟩:=ğ.1 c;exact(Lv h i (by have:=ĺ.1 hi;omega)).2⟩
theorem Zwc{v:Ŀ Int}(h:∀z∈v,gR z){N:Nat}(a:N<=3):lz ((List.range N).map λi=>wB (eY v i)):=
 ⟨by rw[ć,ź];exact a,λb c=>by
  obtain⟨i,_,rfl⟩:=ğ.1 c;exact(A3 (zm h i)).sg⟩
theorem Zxt{x:ZM}(c:jM x)(p:Ö){y:Int}{N:Nat}(f:n3 y=(N:Int))(d:N<=3):(Jk x p y (0,7,[],0,0,0,[],[],[],[])).Α (7,[],0,0,0,[],[],[],(List.range N).map (mF x.v)):=by
 refine Cq.Zn N (λk s=>s=((k:Int),7,[],0,0,0,[],[],[],(List.range k).map (mF x.v))) (λk s e a=>?_) (λs a=>?_) rfl
 .subst a;refine Cq.wp.yes (show(k:Int)<n3 y by omega) ⟨_,(Lv c.v k ŉ).1,?_,Cq.wp.no ĳ ?_⟩
  .simp only[Ā,ć,ź,ė,small];omega
  show _=_;rw[ψ ŉ,aao,Ī];rfl
 subst a;exact Cq.wp.no (show ¬(N:Int)<n3 y by omega) rfl
theorem Zxu{x:ZM}(c:jM x)(p:Ö){y:Int}{N:Nat}(f:n3 y=(N:Int))(d:N<=3):(Jk x p y (0,8,[],0,0,0,[],[],[],[])).Α (8,if N=0 then[]else p,0,0,0,[],[],(List.range N).map (λi=>wB (eY x.v i)),(List.range N).map (mF x.v)):=by
 refine Cq.Zn N (λk s=>s=((k:Int),8,if k=0 then[]else p,0,0,0,[],[],(List.range k).map (λi=>wB (eY x.v i)),(List.range k).map (mF x.v))) (λk s e a=>?_) (λs a=>?_) rfl
 .subst a;refine Cq.wp.yes (show(k:Int)<n3 y by omega) ⟨_,(Lv c.v k ŉ).1,?_,Cq.wp.yes rfl ⟨_,vA c.v k,?_,?_⟩⟩
  .simp only[Ā,ć,ź,ė,small];omega
  .simp only[Ā,ć,ź,ė,small];omega
  show _=_;rw[ψ ŉ,aao,Ī,Ī,ā (Nat.succ_ne_zero k)];rfl
 subst a;exact Cq.wp.no (show ¬(N:Int)<n3 y by omega) rfl
theorem Zpv{x:ZM}(d:jM x):∃c,(Es x).Α c/\Æ c:=by
 obtain⟨m,B,t,v⟩:=Zwi d.l;have s:=zm d.v 1;have f:=A3 s;have k:(ud x.v 1).Α (eY x.v 1):=vA d.v 1;generalize eY x.v 1=y at s f k;have j:(xA m 2 1).Α [ix m 2]:=Up t 2 1 ĳ ĳ;have hp:=Uo v 2;generalize ix m 2=p at j hp;obtain⟨N,n⟩:∃N:Nat,n3 y=(N:Int):=⟨(n3 y).toNat,by have:=f.h3;omega⟩;have a:N<=3:=by have:=f.h3;omega
 have g:(xA m 1 (n3 y)).Α ((List.range N).map λi=>ix m (1+i)):=by rw[n];exact Up t 1 N ĳ a
 have l:=ZyR v 1 N a;have E:1<=i64.wrap (1+(i64.wrap (Int.tmod x.kind 13)))/\i64.wrap (1+(i64.wrap (Int.tmod x.kind 13)))<=13:=by have:=d.kind;have e:Int.tmod x.kind 13=x.kind % 13:=Ŗ this.1;rw[e,wrap64 (x:=x.kind % 13) ŉ,wrap64 ŉ];omega
 have start:∀c,(if(i64.wrap (1+(i64.wrap (Int.tmod x.kind 13))))=1 then(w7 x m p y (decide ((i64.wrap (1+(i64.wrap (Int.tmod x.kind 13))))=1)))else(if(i64.wrap (1+(i64.wrap (Int.tmod x.kind 13))))=2 then(w7 x m p y (decide ((i64.wrap (1+(i64.wrap (Int.tmod x.kind 13))))=2)))else(w7 x m p y (decide ((i64.wrap (1+(i64.wrap (Int.tmod x.kind 13))))=10))))).Α c->(Es x).Α c:=
  λc h=>⟨m,B,_,j,p,⟨ĳ,rfl⟩,y,k,h⟩
 rcases (by omega:i64.wrap (1+(i64.wrap (Int.tmod x.kind 13)))=1\/i64.wrap (1+(i64.wrap (Int.tmod x.kind 13)))=2\/i64.wrap (1+(i64.wrap (Int.tmod x.kind 13)))=3\/i64.wrap (1+(i64.wrap (Int.tmod x.kind 13)))=4\/i64.wrap (1+(i64.wrap (Int.tmod x.kind 13)))=5\/i64.wrap (1+(i64.wrap (Int.tmod x.kind 13)))=6\/i64.wrap (1+(i64.wrap (Int.tmod x.kind 13)))=7\/i64.wrap (1+(i64.wrap (Int.tmod x.kind 13)))=8\/i64.wrap (1+(i64.wrap (Int.tmod x.kind 13)))=9\/i64.wrap (1+(i64.wrap (Int.tmod x.kind 13)))=10\/i64.wrap (1+(i64.wrap (Int.tmod x.kind 13)))=11\/i64.wrap (1+(i64.wrap (Int.tmod x.kind 13)))=12\/i64.wrap (1+(i64.wrap (Int.tmod x.kind 13)))=13)with e|e|e|e|e|e|e|e|e|e|e|e|e
 .exact⟨⟨1,p,0,0,0,[],[],[],[]⟩,start _ (Cq.wp.yes e (Cq.wp.yes (Ą e) (by show _=_;rw[e]))),.ie 1 p ĳ hp⟩
 .exact⟨⟨2,p,0,0,0,[],[],[],[]⟩,start _ (Cq.wp.no (by rw[e];decide) (Cq.wp.yes e (Cq.wp.yes (Ą e) (by show _=_;rw[e])))),.ie 2 p ĳ hp⟩
 .exact⟨⟨3,[],0,0,0,[],[],[],[]⟩,start _ (Cq.wp.no (by rw[e];decide) (Cq.wp.no (by rw[e];decide) (Cq.wp.no (by rw[e];decide) (Cq.wp.no (by rw[e];decide) (Cq.wp.no (by rw[e];decide) (Cq.wp.no (by rw[e];decide) (Cq.wp.no (by rw[e];decide) (Cq.wp.no (by rw[e];decide) (Cq.wp.no (by rw[e];decide) (Cq.wp.no (by rw[e];decide) (Cq.wp.no (by rw[e];decide) ((by show _=_;rw[e]))))))))))))),.nil 3 ĳ⟩
 .have h2:=zm d.v 2;have C:(xw (u8.wrap (eY x.v 2))).Α (l5 (u8.wrap (eY x.v 2)).toNat):=by
   obtain⟨u,r⟩:∃u:Nat,u8.wrap (eY x.v 2)=(u:Int):=⟨((eY x.v 2) % 256).toNat,by show(eY x.v 2) % 256=_;omega⟩;have D:(u:Int)<=255:=by rw[<-r];show(eY x.v 2) % 256<=255;omega
   rw[r];exact TU ŉ
  exact⟨⟨4,[],0,0,0,_,_,[],[]⟩,start _ (Cq.wp.no (by rw[e];decide) (Cq.wp.no (by rw[e];decide) (Cq.wp.no (by rw[e];decide) (Cq.wp.yes e ⟨_,vA d.v 2,_,C,_,g,(by show _=_;rw[e])⟩)))),.Hc _ _ T2 l⟩
 .have A:=(A3 (zm d.v 3)).oU;exact⟨⟨5,[],n15 (eY x.v 3),n3 y-1,0,[],[],[],[]⟩,start _ (Cq.wp.no (by rw[e];decide) (Cq.wp.no (by rw[e];decide) (Cq.wp.no (by rw[e];decide) (Cq.wp.no (by rw[e];decide) (Cq.wp.yes e ⟨_,vA d.v 3,by show Zh.mk _ _ _ (i64.wrap (n3 y-1)) _ _ _ _ _=_;rw[e,f.dm];rfl⟩))))),.BW _ _ A (by have:=f.h3;omega)⟩
 .exact⟨⟨6,[],n7 y,i64.wrap (n7 y-i64.wrap (Int.tdiv (n7 y) 3)),i64.wrap (Int.tdiv (n7 y) 2),[],[],[],[]⟩,start _ (Cq.wp.no (by rw[e];decide) (Cq.wp.no (by rw[e];decide) (Cq.wp.no (by rw[e];decide) (Cq.wp.no (by rw[e];decide) (Cq.wp.no (by rw[e];decide) (Cq.wp.yes e (by show _=_;rw[e];rfl))))))),.HX _ _ _ ⟨f.pt.1,f.pt.2.1,f.pt.2.2,f.h7.2⟩⟩
 .have h7:=Zxt d p n a;rw[<-e]at h7;exact⟨⟨7,[],0,0,0,[],[],[],(List.range N).map (mF x.v)⟩,start _ (Cq.wp.no (by rw[e];decide) (Cq.wp.no (by rw[e];decide) (Cq.wp.no (by rw[e];decide) (Cq.wp.no (by rw[e];decide) (Cq.wp.no (by rw[e];decide) (Cq.wp.no (by rw[e];decide) (Cq.wp.yes e (Cq.wp.yes (Ą e) (Cq.eT h7 (Cq.wp.no (by rw[e];decide) (by show _=_;rw[e]))))))))))),.box _ (R3 d.v a)⟩
 .have q:=Zxu d p n a;rw[<-e]at q;exact⟨⟨8,p,0,0,0,[],[],(List.range N).map (λi=>wB (eY x.v i)),(List.range N).map (mF x.v)⟩,start _ (Cq.wp.no (by rw[e];decide) (Cq.wp.no (by rw[e];decide) (Cq.wp.no (by rw[e];decide) (Cq.wp.no (by rw[e];decide) (Cq.wp.no (by rw[e];decide) (Cq.wp.no (by rw[e];decide) (Cq.wp.no (by rw[e];decide) (Cq.wp.yes (Ą e) (Cq.eT q (Cq.wp.yes e (by show _=_;rw[e]))))))))))),.sig _ _ _ hp (Zwc d.v a) (by rw[ć,ć]) (R3 d.v a)⟩
 .exact⟨⟨9,[],0,0,0,[],[],[],[]⟩,start _ (Cq.wp.no (by rw[e];decide) (Cq.wp.no (by rw[e];decide) (Cq.wp.no (by rw[e];decide) (Cq.wp.no (by rw[e];decide) (Cq.wp.no (by rw[e];decide) (Cq.wp.no (by rw[e];decide) (Cq.wp.no (by rw[e];decide) (Cq.wp.no (by rw[e];decide) (Cq.wp.no (by rw[e];decide) (Cq.wp.no (by rw[e];decide) (Cq.wp.no (by rw[e];decide) ((by show _=_;rw[e]))))))))))))),.nil 9 ĳ⟩
 .exact⟨⟨10,p,0,0,0,[],[],[],[]⟩,start _ (Cq.wp.no (by rw[e];decide) (Cq.wp.no (by rw[e];decide) (Cq.wp.yes (Ą e) (by show _=_;rw[e])))),.ie 10 p ĳ hp⟩
 .exact⟨⟨11,[],0,0,0,[],_,[],[]⟩,start _ (Cq.wp.no (by rw[e];decide) (Cq.wp.no (by rw[e];decide) (Cq.wp.no (by rw[e];decide) (Cq.wp.no (by rw[e];decide) (Cq.wp.no (by rw[e];decide) (Cq.wp.no (by rw[e];decide) (Cq.wp.no (by rw[e];decide) (Cq.wp.no (by rw[e];decide) (Cq.wp.yes e ⟨_,g,(by show _=_;rw[e])⟩))))))))),.u4 _ l⟩
 .exact⟨⟨12,[],n7 y,0,0,[],[],[],[]⟩,start _ (Cq.wp.no (by rw[e];decide) (Cq.wp.no (by rw[e];decide) (Cq.wp.no (by rw[e];decide) (Cq.wp.no (by rw[e];decide) (Cq.wp.no (by rw[e];decide) (Cq.wp.no (by rw[e];decide) (Cq.wp.no (by rw[e];decide) (Cq.wp.no (by rw[e];decide) (Cq.wp.no (by rw[e];decide) (Cq.wp.yes e (Cq.wp.yes e (by show _=_;rw[e];rfl)))))))))))),.zL 12 _ ĳ f.h7⟩
 exact⟨⟨13,[],n7 y,0,0,[],[],[],[]⟩,start _ (Cq.wp.no (by rw[e];decide) (Cq.wp.no (by rw[e];decide) (Cq.wp.no (by rw[e];decide) (Cq.wp.no (by rw[e];decide) (Cq.wp.no (by rw[e];decide) (Cq.wp.no (by rw[e];decide) (Cq.wp.no (by rw[e];decide) (Cq.wp.no (by rw[e];decide) (Cq.wp.no (by rw[e];decide) (Cq.wp.no (by rw[e];decide) (Cq.wp.yes e (by show _=_;rw[e];rfl)))))))))))),.zL 13 _ ĳ f.h7⟩
theorem Zu6{x:Zq}(s:∀y∈x.l,jM y):∃l,(yX x).Α l/\l.length<=4/\∀c∈l,Æ c:=by
 have key:∀(m i:Nat),m+i=min x.l.length 4->∀l:Ŀ Zh,l.length=i->(∀c∈l,Æ c)->∃r,(Qf x (l,(i:Int))).Α r/\r.length<=4/\∀c∈r,Æ c:=by
  intro m;induction m with
  |zero=>
   intro i hi l p h2;refine⟨l,Cq.Zt ?_,ŉ,h2⟩;by_cases h:i<x.l.length
   .exact Cq.wp.yes ŉ (Cq.wp.no ŉ rfl)
   exact Cq.wp.no ŉ rfl
  |succ m t=>
   intro i hi l p h2;have e:i<x.l.length:=ŉ;obtain⟨c,k,n⟩:=Zpv (s _ (Ă e));obtain⟨r,f,g,j⟩:=t (i+1) ŉ (l++[c]) (by rw[Ā];simp;omega) (λd a=>by
    rcases Ĩ.1 a with a|a
    .exact h2 d a
    rw[Ĕ.1 a];exact n)
   refine⟨r,Cq.Zt (Cq.wp.yes ŉ (Cq.wp.yes ŉ ⟨_,Λ e,c,k,?_,?_⟩)),g,j⟩
   .simp only[Ā,ė,small];omega
   show(Cq.loop _ _).wp _;rw[ψ ŉ];exact f
 obtain⟨r,f,g,j⟩:=key (min x.l.length 4) 0 ŉ [] rfl (λc q=>absurd q Ĝ);exact⟨r,Cq.eT f rfl,g,j⟩
end Go.EL

namespace Go.EL
open Go.IntKind (i8 i16 i32 i64 u8 u16 u32 u64)
open Go Go.RowKit
theorem ä.map{B:Zb}(h:ä B){f:Zd->Zd}(hi:∀t,(f t).id=t.id)(a:∀t,(f t).k=t.k)(c:∀t,(f t).q=t.q)(l:∀t∈B.t,(0<=(f t).ο/\(f t).ο<=13)/\0<=(f t).low/\-1<=(f t).high):ä ⟨B.t.map f,B.next⟩ where
 can t g:=by obtain⟨u,k,rfl⟩:=ğ.1 g;rw[a,c];exact h.can u k
 ids i ki:=by
  have h2:i<B.t.length:=by simpa using ki
  show(B.t.map f)[i].id=_;rw[Ş,hi];exact h.ids i h2
 next:=by show B.next=((B.t.map f).length:Int)+1;rw[ć];exact h.next
 Û:=by rw[Ÿ];refine h.Û.imp λ{s t} e=>?_;show hQ (f s).k (f s).q≠hQ (f t).k (f t).q;rw[a,c,a,c];exact e
 lW i ki x d:=by
  have h2:i<B.t.length:=by simpa using ki
  have d:x∈ù ((B.t.map f)[i]'(by simpa using h2)).q.kind:=d;rw[Ş,c]at d;obtain⟨j,j2,j3,j4⟩:=h.lW i h2 x d;refine⟨j,by show j<(B.t.map f).length;rw[ć];exact j2,j3,?_⟩;show hQ ((B.t.map f)[j]'(by simpa using j2)).k ((B.t.map f)[j]'(by simpa using j2)).q=hQ ((B.t.map f)[i]'(by simpa using h2)).k x;rw[Ş,Ş,a,c,a];exact j4
 num t g:=by obtain⟨u,k,rfl⟩:=ğ.1 g;exact l u k
theorem ZAq(l:Ŀ Zh){t:Zd}(h:0<=t.low/\-1<=t.high):0<=(l.foldl eW t).low/\-1<=(l.foldl eW t).high:=by
 induction l generalizing t with
 |nil=>exact h
 |cons c l a=>
  refine a ⟨?_,?_⟩
  .show 0<=oB _ _;unfold oB;split<;>omega
  show -1<=lr _ _;unfold lr;repeat' split
  all_goals omega
theorem y3(k:Zc)(id:Int)(l:Ŀ Zh)(tried:Int)(t:Zd):(stepT k id l tried t).id=t.id/\(stepT k id l tried t).k=t.k/\(stepT k id l tried t).q=t.q:=by
 obtain⟨a,h2,h3,_⟩:=xC l t;unfold stepT gM;by_cases e:ø t.k=ø k
 .rw[ă e];split
  .exact⟨a,h2,h3⟩
  exact⟨a,h2,h3⟩
 rw[ā e];split<;>exact⟨rfl,rfl,rfl⟩
theorem Zzg{k:Zc}{id:Int}{l:Ŀ Zh}{tried:Int}(c:0<=tried/\tried<=12){t:Zd}(h:(0<=t.ο/\t.ο<=13)/\0<=t.low/\-1<=t.high):(0<=(stepT k id l tried t).ο/\(stepT k id l tried t).ο<=13)/\0<=(stepT k id l tried t).low/\-1<=(stepT k id l tried t).high:=by
 have key:∀u:Zd,(0<=u.ο/\u.ο<=13)/\0<=u.low/\-1<=u.high->(0<=(gM id tried u).ο/\(gM id tried u).ο<=13)/\0<=(gM id tried u).low/\-1<=(gM id tried u).high:=λu a=>by
  unfold gM;split
  .refine⟨?_,a.2⟩;show 0<=(if u.ο<tried+1 then tried+1 else u.ο)/\(if u.ο<tried+1 then tried+1 else u.ο)<=13;split<;>omega
  exact a
 unfold stepT;refine key _ ?_;split
 .rw[(xC l t).2.2.2];exact⟨h.1,ZAq l h.2⟩
 exact h
theorem Lj{B:Zb}(h:ä B){id:Int}{l:Ŀ Zh}{tried:Int}(a:(gA B id l tried).2=0):ä (gA B id l tried).1/\(gA B id l tried).1.t.length=B.t.length:=by
 unfold gA at a⊢;split at a
 .cases a
 split at a
 .cases a
 split at a
 .rw[ā ‹_›,ā ‹_›,ă ‹_›];exact⟨h.map (λt=>(y3 _ _ _ _ t).1) (λt=>(y3 _ _ _ _ t).2.1) (λt=>(y3 _ _ _ _ t).2.2) λt c=>Zzg ŉ (h.num t c),ć _⟩
 cases a
structure iT (x:Zq):Prop where
 fW:0<=x.fW/\x.fW<=255
 c:iq x.c
 kind:0<=x.kind/\x.kind<=255
 p:jh x.p
 o:0<=x.o/\x.o<=255
 l:∀y∈x.l,jM y
structure rS (x:Zq) (k:Zc) (q:Ze) (l:Ŀ Zh):Prop where
 core:(Bg x).Α k
 asks:(Bf x k).Α q
 lO:(yX x).Α l
 k:eB k
 q:fg q
 len:l.length<=4
 l:∀c∈l,Æ c
theorem Zyp{x:Zq}(c:iT x){k:Zc}(h:eB k):∃q,(Bf x k).Α q/\fg q:=by
 have s:=h.ok.n;have l:=h.n3;obtain⟨n,j⟩:∃n:Nat,k.n=(n:Int):=⟨k.n.toNat,ŉ⟩;have i:(if 3<k.n then 3 else k.n)=(n:Int):=by rw[ā ŉ,j]
 have a:∀p:Ö,ω p->∃q,(EW x ⟨i64.wrap (Int.tmod x.kind 12),p,[]⟩).Α q/\fg q:=λp hp=>by
  by_cases e:i64.wrap (Int.tmod x.kind 12)=3
  .obtain⟨u,r⟩:∃u:Nat,x.o=(u:Int):=⟨x.o.toNat,by have:=c.o;omega⟩;have m:(xw x.o).Α (l5 u):=by rw[r];exact TU (by have:=c.o;omega)
   exact⟨⟨_,p,l5 u⟩,Cq.wp.yes e ⟨_,m,rfl⟩,⟨hp,.inl T2⟩⟩
  exact⟨_,Cq.wp.no e rfl,⟨hp,(fg.nil 0).o⟩⟩
 cases g:decide (i64.wrap (Int.tmod x.kind 12)=1\/i64.wrap (Int.tmod x.kind 12)=7\/i64.wrap (Int.tmod x.kind 12)=9)with
 |true=>
  obtain⟨q,f,h2⟩:=a _ (LV c.p (n:=n) ŉ (d:=2) ĳ ĳ (k:=3) ĳ).1;exact⟨q,⟨true,by rw[<-g];exact Ls _,Cq.wp.yes rfl ⟨_,by rw[i];exact LB c.p (n:=n) ŉ ĳ ĳ (k:=3) ĳ,f⟩⟩,h2⟩
 |false=>
  obtain⟨q,f,h2⟩:=a [] (ω.of ĳ);exact⟨q,⟨false,by rw[<-g];exact Ls _,Cq.wp.nr rfl f⟩,h2⟩
theorem ZvC{x:Zq}(c:iT x):∃k,(Bg x).Α k/\eB k:=by obtain⟨a,f⟩:=ZvP c.c;obtain⟨e,d⟩:=Zyv a ŉ;refine⟨_,⟨_,Zu8 c.c,_,Zvl a,rfl⟩,d,?_⟩;rw[e];show pA _<=3;have g:(jc x.c).vars.length=ju x.c:=FF x.c;have:=Bw x.c;unfold pA;split<;>omega
theorem Uq{x:Zq}(a:iT x):∃k q l,rS x k q l:=by obtain⟨k,c,k2⟩:=ZvC a;obtain⟨q,g,h⟩:=Zyp a k2;obtain⟨l,d,e,f⟩:=Zu6 a.l;exact⟨k,q,l,c,g,d,k2,h,e,f⟩
def lP(B:Zb)(x:Zq)(k:Zc)(q:Ze)(l:Ŀ Zh):Zb×Int×Int:=
 if Int.tmod x.fW 2=0 then(if(gK B k q).2.2=0 then gK B k q else(B,0,(gK B k q).2.2))
 else(if(gA B x.id l x.tried).2=0 then((gA B x.id l x.tried).1,0,0)else(B,0,(gA B x.id l x.tried).2))
theorem Zyl{B:Zb}{k:Zc}{q:Ze}(h:¬(gK B k q).2.2=0):(gK B k q).2.1=0:=by
 unfold gK at h⊢;split at h
 .exact absurd rfl h
 rw[ā ‹_›]
theorem ZwG{B:Zb}(h:ä B)(g:B.t.length<=90){x:Zq}{k:Zc}{q:Ze}{l:Ŀ Zh}(a:rS x k q l):(KR B x).Α (lP B x k q l)/\(FV B x).Α (lP B x k q l):=by
 unfold lP;by_cases d:Int.tmod x.fW 2=0
 .rw[ă d];have a1:=Bh h ŉ a.k a.q;have a2:=Zyi h ŉ a.k a.q;by_cases c:(gK B k q).2.2=0
  .rw[ă c];refine⟨Cq.wp.yes d ⟨_,a.core,_,a.asks,_,a1,Cq.wp.no (λe=>e c) rfl⟩,Cq.wp.yes d ⟨_,a.core,_,a.asks,_,a2,Cq.wp.no (λe=>e c) ?_⟩⟩;show _=_;have:gK B k q=((gK B k q).1,(gK B k q).2.1,0):=by rw[<-c]
   exact this.symm
  rw[ā c];refine⟨Cq.wp.yes d ⟨_,a.core,_,a.asks,_,a1,Cq.wp.yes c ?_⟩,Cq.wp.yes d ⟨_,a.core,_,a.asks,_,a2,Cq.wp.yes c rfl⟩⟩;show _=_;rw[Zyl c]
 rw[ā d];have f:=a.len;have a1:=tB h ŉ x.id ŉ a.l x.tried;have a2:=Zvm h ŉ x.id ŉ a.l x.tried;by_cases c:(gA B x.id l x.tried).2=0
 .rw[ă c];refine⟨Cq.wp.no d ⟨_,a.lO,_,a1,Cq.wp.no (λe=>e c) ?_⟩,Cq.wp.no d ⟨_,a.lO,_,a2,Cq.wp.no (λe=>e c) rfl⟩⟩;show _=_;rw[c]
 rw[ā c];exact⟨Cq.wp.no d ⟨_,a.lO,_,a1,Cq.wp.yes c rfl⟩,Cq.wp.no d ⟨_,a.lO,_,a2,Cq.wp.yes c rfl⟩⟩
theorem K6{B:Zb}(h:ä B){k:Zc}{q:Ze}(d:eB k)(e:fg q)(a:(gK B k q).2.2=0):Grown B (gK B k q).1 4:=by
 unfold gK at a⊢;split at a
 .rw[ă ‹_›];have c:=Mt (eU q (â k).2).kind;exact(FY (n:=5) ŉ h (iS.of d e ‹_›)).1.up c
 cases a
theorem ZwF{B:Zb}(h:ä B){x:Zq}{k:Zc}{q:Ze}{l:Ŀ Zh}(c:rS x k q l):ä (lP B x k q l).1/\B.t.length<=(lP B x k q l).1.t.length/\(lP B x k q l).1.t.length<=B.t.length+4:=by
 unfold lP;split
 .split
  .have a:=K6 h c.k c.q ‹_›;exact⟨a.ok,a.pre.length_le,a.len⟩
  exact⟨h,ĉ _,abv _ _⟩
 split
 .obtain⟨d,e⟩:=Lj h ‹_›;exact⟨d,aa0 e.symm,by show(gA B x.id l x.tried).1.t.length<=_;omega⟩
 exact⟨h,ĉ _,abv _ _⟩
def jA:Zb:=⟨[],1⟩
theorem y6:ä jA where
 can t a:=absurd a Ĝ
 ids i hi:=absurd hi (ı _)
 next:=rfl
 Û:=List.Pairwise.nil
 lW i hi:=absurd hi (ı _)
 num t a:=absurd a Ĝ
theorem Zvv{l:Ŀ Zq}(h:∀x∈l,iT x):∃B,(LI l).Α B/\ä B/\B.t.length<=24:=by
 have key:∀(m i:Nat),m+i=min l.length 6->∀B,ä B->B.t.length<=4*i->∃C,(Rt l ((i:Int),B)).Α C/\ä C/\C.t.length<=24:=by
  intro m;induction m with
  |zero=>
   intro i hi B d j;refine⟨B,Cq.Zt ?_,d,ŉ⟩;by_cases h:i<l.length
   .exact Cq.wp.yes ŉ (Cq.wp.no ŉ rfl)
   exact Cq.wp.no ŉ rfl
  |succ m n=>
   intro i hi B d j;have a:i<l.length:=ŉ;obtain⟨k,q,c,hp⟩:=Uq (h _ (Ă a));obtain⟨d1,d2,d3⟩:=ZwF d hp;obtain⟨C,e,f,g⟩:=n (i+1) ŉ _ d1 ŉ;refine⟨C,Cq.Zt (Cq.wp.yes ŉ (Cq.wp.yes ŉ ⟨_,Λ a,_,(ZwG d ŉ hp).2,?_⟩)),f,g⟩;show(Cq.loop _ _).wp _;rw[ψ ŉ];exact e
 obtain⟨C,e,f,g⟩:=key (min l.length 6) 0 ŉ jA y6 (ĉ _);exact⟨C,⟨jA,rfl,Cq.eT e rfl⟩,f,g⟩
end Go.EL

namespace Go.Proofs.YtepbagkffgddlaaGreat
open Go.IntKind (i8 i16 i32 i64 u8 u16 u32 u64)
open Go.Proofs.Tryz
open Go Go.EL Go.RowKit Go.Proofs
def sN(x:Zu):Prop:=(∀y∈x.t,∀i,(Lit.int .i8 (y i)).wf=true)
def yk(x:ZA):Prop:=((Lit.int .u8 x.n).wf=true)/\(∀y∈x.l,sN y)/\(∀y∈x.iu,(Lit.int .u8 y).wf=true)
def sM(x:ZM):Prop:=((Lit.int .u8 x.kind).wf=true)/\(∀y∈x.l,sN y)/\(∀y∈x.v,(Lit.int .i8 y).wf=true)
def C0(x:Zq):Prop:=((Lit.int .u8 x.fW).wf=true)/\(yk x.c)/\((Lit.int .u8 x.kind).wf=true)/\(sN x.p)/\((Lit.int .u8 x.o).wf=true)/\(∀y∈x.l,sM y)/\((Lit.int .i64 x.id).wf=true)/\((Lit.int .i64 x.tried).wf=true)
theorem nE(W:World):Ç prog W 37 ZN (sN):=by have h:=Ç.struct (W:=W) underlying37 İ (eQ.last rfl İ (Ç.sl underlying35 İ ĳ (Ç.vec underlying197 underlying196 İ İ))) (λ(x:Zu)=>x.t) (λy=>⟨y⟩) (λ_=>rfl);exact h
theorem uS(W:World):Ç prog W 34 Kl (yk):=by have h:=Ç.struct (W:=W) underlying34 İ (eQ.cons rfl İ (Ç.int underlying5) (eQ.cons rfl İ (Ç.sl underlying31 İ ĳ (nE W)) (eQ.last rfl İ (Ç.sl underlying32 İ ĳ (Ç.int underlying5))))) (λ(x:ZA)=>(x.n,x.l,x.iu)) (λy=>⟨y.1,y.2.1,y.2.2⟩) (λ_=>rfl);exact h
theorem sO(W:World):Ç prog W 160 tE (sM):=by have h:=Ç.struct (W:=W) underlying160 İ (eQ.cons rfl İ (Ç.int underlying5) (eQ.cons rfl İ (Ç.sl underlying31 İ ĳ (nE W)) (eQ.last rfl İ (Ç.sl underlying158 İ ĳ (Ç.int underlying196))))) (λ(x:ZM)=>(x.kind,x.l,x.v)) (λy=>⟨y.1,y.2.1,y.2.2⟩) (λ_=>rfl);exact h
theorem qk(W:World):Ç prog W 40 yN (C0):=by have h:=Ç.struct (W:=W) underlying40 İ (eQ.cons rfl İ (Ç.int underlying5) (eQ.cons rfl İ (uS W) (eQ.cons rfl İ (Ç.int underlying5) (eQ.cons rfl İ (nE W) (eQ.cons rfl İ (Ç.int underlying5) (eQ.cons rfl İ (Ç.sl underlying38 İ ĳ (sO W)) (eQ.cons rfl İ (Ç.int underlying3) (eQ.last rfl İ (Ç.int underlying3))))))))) (λ(x:Zq)=>(x.fW,x.c,x.kind,x.p,x.o,x.l,x.id,x.tried)) (λy=>⟨y.1,y.2.1,y.2.2.1,y.2.2.2.1,y.2.2.2.2.1,y.2.2.2.2.2.1,y.2.2.2.2.2.2.1,y.2.2.2.2.2.2.2⟩) (λ_=>rfl);exact h
theorem Mw{x:Zu}(h:sN x):jh x:=λv a j=>wf_i8 (h v a j)
theorem Zy4{x:ZA}(h:yk x):iq x:=⟨wf_u8 h.1,λy c=>Mw (h.2.1 y c),λg a=>wf_u8 (h.2.2 g a)⟩
theorem Zy3{x:ZM}(h:sM x):jM x:=⟨wf_u8 h.1,λy c=>Mw (h.2.1 y c),λg a=>wf_i8 (h.2.2 g a)⟩
theorem Vf{x:Zq}(h:C0 x):iT x:=⟨wf_u8 h.1,Zy4 h.2.1,wf_u8 h.2.2.1,Mw h.2.2.2.1,wf_u8 h.2.2.2.2.1,λy a=>Zy3 (h.2.2.2.2.2.1 y a)⟩
set_option maxRecDepth 100000 in
theorem Zxy{W:World}{base:Nat}{v:Value}{H:Type}{enc:TypeId×Value->H}{b:Nat}{d:DataW H}{ps:Ŀ MemPlace}(a:Value.okWide prog W .any base 40 v)(h:DataW.Trod enc prog W b (λ_=>true) true 40 v d ps):∃(x:Zq) (p:ŀ Addr) (c:Nat) (q:ŀ Addr) (e:Nat) (r:ŀ Addr) (f:Nat) (s:ŀ Addr) (g:Nat),v=.agg ([.int .u8 x.fW,.int .u8 x.c.n,.slice p x.c.l.length c,.slice q x.c.iu.length e,.int .u8 x.kind,.slice r x.p.t.length f,.int .u8 x.o,.slice s x.l.length g,.int .i64 x.id,.int .i64 x.tried]).toArray/\(Ε ZN (gS W) (.slice p x.c.l.length c) x.c.l/\Ε (Rp.int .u8) (gS W) (.slice q x.c.iu.length e) x.c.iu/\Ε (Rp.vec .i8 5) (gS W) (.slice r x.p.t.length f) x.p.t/\Ε tE (gS W) (.slice s x.l.length g) x.l)/\iT x:=by obtain⟨cs,x,rfl,h2,h3⟩:=Zt3 underlying40 (qk W) a h;obtain⟨p,c,q,e,r,f,s,g,i,k2,k3,k,l⟩:=Qi (K:=λj u=>cs[j]?=some u) (Zyq h2);exact⟨x,p,c,q,e,r,f,s,g,by rw[Zys h2 (by rfl) i],⟨k2,k3,k,l⟩,Vf h3⟩
set_option maxRecDepth 100000 in
theorem ZvV{W:World}{base:Nat}{v:Value}{H:Type}{enc:TypeId×Value->H}{b:Nat}{d:DataW H}{ps:Ŀ MemPlace}(a:Value.okWide prog W .any base 22 v)(h:DataW.Trod enc prog W b (λ_=>true) true 22 v d ps):∃p cap l,v=.slice p (List.length l) cap/\Ε yN (gS W) (.slice p l.length cap) l/\∀y∈l,iT y:=by obtain⟨p,cap,l,c,h2,h3⟩:=Zt2 underlying22 İ ĳ (qk W) a h;exact⟨p,cap,l,c,h2,λy e=>Vf (h3 y e)⟩
end Go.Proofs.YtepbagkffgddlaaGreat

