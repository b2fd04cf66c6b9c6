/- The law TaskSame holds for every input: a part of its proof (fT the code does, plain models, and fT they return). No condition. -/
import Derived.Test.YtepbagkffgddlaaGreatXS8c
import Derived.Test.YtepbagkffgddlaaGreatXS8b
set_option linter.unusedVariables false
set_option linter.unusedSimpArgs false
namespace Go.EL
open Go.IntKind (i8 i16 i32 i64 u8 u16 u32 u64)
open Go Go.EL Go.RowKit Go.Proofs
def fo(c:Zf):Bool:=match c.num.υ,c.den.υ with
 |[w],[d]=>!c.den.neg&&decide (d=1)&&decide (1<=w)&&decide (w<=12)
 |_,_=>false
def Î(c:Zf):Int:=if c.num.neg=true then-c.num.υ.headD 0 else c.num.υ.headD 0
def fB(s t:Za):Int:=if s.m=t.m then(if Î s.c<Î t.c then -1 else if Î s.c=Î t.c then 0 else 1)else Ý s.m t.m
def í:Ŀ Za->Ŀ Za->Int
 |[],[]=>0
 |[],_::_=>-1
 |_::_,[]=>1
 |s::p,t::q=>if fB s t=0 then í p q else fB s t
def Ñ(p:Ŀ Za):Bool:=decide (p.length<=1000)&&p.all λt=>fo t.c
def zO(x:Ŀ Za):Ŀ (Ŀ Za)->Ŀ (Ŀ Za)
 |[]=>[x]
 |y::l=>if 0<í x y then y::zO x l else x::y::l
def jz(l:Ŀ (Ŀ Za)):Ŀ (Ŀ Za):=l.foldr zO []
def jQ(x:Ŀ Za):Ŀ (Ŀ Za)->Ŀ (Ŀ Za)
 |[]=>[]
 |y::l=>if í y x=0 then jQ y l else y::jQ y l
def gj:Ŀ (Ŀ Za)->Ŀ (Ŀ Za)
 |[]=>[]
 |x::l=>x::jQ x l
def Ef(l:Ŀ (Ŀ Za)):Cq (Ŀ (Ŀ Za)):=Cq.ì (l.length<=100/\l.all Ñ=true) (Cq.ret (gj (jz l)))
def iG:Nat->Int->Ŀ Int
 |0,n=>[u8.wrap n]
 |f+1,n=>if 128<=n then u8.wrap (u8.wrap (Int.tmod n 128)+128)::iG f (u64.wrap (Int.tdiv n 128))else[u8.wrap n]
def fw(n:Int):Ŀ Int:=iG 10 n
def lx(n:Int):Ŀ Int:=fw (u64.wrap (2*u64.wrap n))
def fE(d:Int):Ŀ Int:=[u8.wrap (Int.fdiv d (2 ^ (min (24:Int).toNat u32.bits))),u8.wrap (Int.fdiv d (2 ^ (min (16:Int).toNat u32.bits))),u8.wrap (Int.fdiv d (2 ^ (min (8:Int).toNat u32.bits))),u8.wrap d]
def lr(a:Zg):Ŀ Int:=fw (if a.neg=true then u64.wrap (u64.wrap (2*u64.wrap (a.υ.length:Int))+1)else u64.wrap (2*u64.wrap (a.υ.length:Int)))++a.υ.flatMap fE
def mu(a:Zf):Ŀ Int:=lr a.num++lr a.den
def iF(m:Fin 8->Int):Nat->Ŀ Int
 |0=>[]
 |k+1=>iF m k++fw (u64.wrap (Η m (k:Int)))
def fW(t:Za):Ŀ Int:=mu t.c++iF t.m 8
def fD(p:Ŀ Za):Ŀ Int:=fw (u64.wrap (p.length:Int))++p.flatMap fW
def fS(l:Ŀ (Ŀ Za)):Ŀ Int:=fw (u64.wrap (l.length:Int))++l.flatMap fD
def gY(k:Zc):Ŀ Int:=lx k.n++fS k.eqs++fS k.δ
def ym(f:Fin 8->Int)(a b:Nat):Fin 8->Int:=ζ (ζ f a (Η f (b:Int))) b (Η f (a:Int))
def oX(f:Fin 8->Int)(b a:Nat):Nat->Fin 8->Int
 |0=>f
 |k+1=>ym (oX f b a k) (b+k) (b+(a-1-k))
def kI(p:Fin 8->Int):Nat->ŀ Nat
 |0=>none
 |k+1=>if Η p ((k+1:Nat):Int)<Η p (k:Int)then kI p k else some k
def wc(p:Fin 8->Int)(x:Int):Nat->Nat
 |0=>0
 |j+1=>if Η p ((j+1:Nat):Int)<x then wc p x j else j+1
def n1(n:Nat)(p:Fin 8->Int):ŀ (Fin 8->Int):=match kI p (n-1)with
 |none=>none
 |some i=>some (oX (ym p i (wc p (Η p (i:Int)) (n-1))) (i+1) (n-(i+1)) ((n-(i+1)) / 2))
def sM(n:Nat):Nat->(Fin 8->Int)->Ŀ (Fin 8->Int)
 |0,_=>[]
 |k+1,p=>p::match n1 n p with|none=>[]|some q=>sM n k q
def Α(n:Nat):Ŀ (Fin 8->Int):=sM n 24 λi=>(i.val:Int)
def kx(n:Int):Ŀ Int:=if 0<=n then lx n else fw (u64.wrap (u64.wrap (2*u64.wrap (i64.wrap (0-i64.wrap (n+1))))+1))
def fY(m:Fin 8->Int):Nat->Ŀ Int
 |0=>[]
 |k+1=>fY m k++kx (Η m (k:Int))
def jA(o:Ŀ (Fin 8->Int)):Ŀ Int:=fw (u64.wrap (o.length:Int))++o.flatMap λm=>fY m 8
def oF(q:Zb):Ŀ Int:=kx q.kind++fD q.p++jA q.o
def ll(s t:Ze):Int:=if s.ψ<t.ψ then -1 else if t.ψ<s.ψ then 1 else if s.id<t.id then -1 else if t.id<s.id then 1 else 0
def AH:Ĳ:=⟨#[90,101,100]⟩
def AI:Ĳ:=⟨#[121,95,49]⟩
def AJ:Ĳ:=⟨#[120]⟩
def Q3:Ĳ:=⟨#[0,1,2,2,3,3,3,3,4,4,4,4,4,4,4,4,5,5,5,5,5,5,5,5,5,5,5,5,5,5,5,5,6,6,6,6,6,6,6,6,6,6,6,6,6,6,6,6,6,6,6,6,6,6,6,6,6,6,6,6,6,6,6,6,7,7,7,7,7,7,7,7,7,7,7,7,7,7,7,7,7,7,7,7,7,7,7,7,7,7,7,7,7,7,7,7,7,7,7,7,7,7,7,7,7,7,7,7,7,7,7,7,7,7,7,7,7,7,7,7,7,7,7,7,7,7,7,7,8,8,8,8,8,8,8,8,8,8,8,8,8,8,8,8,8,8,8,8,8,8,8,8,8,8,8,8,8,8,8,8,8,8,8,8,8,8,8,8,8,8,8,8,8,8,8,8,8,8,8,8,8,8,8,8,8,8,8,8,8,8,8,8,8,8,8,8,8,8,8,8,8,8,8,8,8,8,8,8,8,8,8,8,8,8,8,8,8,8,8,8,8,8,8,8,8,8,8,8,8,8,8,8,8,8,8,8,8,8,8,8,8,8,8,8,8,8,8,8,8,8,8,8,8,8,8,8]⟩
def Pd(k:Int):Cq (Ŀ (Ŀ Za)):=Cq.ì (0<=k/\k<=1000000) (Cq.ret [])
def Znb(b:(Fin 8->Int))(c:(Fin 8->Int))(a:Int):Cq Int:=
 Cq.ì (0<=a/\a<8) (Cq.ì (0<=a/\a<8) (if(Η b a)<(Η c a)then(Cq.ret (-1))else(Cq.ret 1)))
def Zna(b:(Fin 8->Int))(c:(Fin 8->Int)):Int->Cq Int:=
 Cq.loop λd=>match d with|a=>Cq.ì (0<=a/\a<8) (Cq.ì (0<=a/\a<8) (if(Η b a)=(Η c a)then(Cq.ret (.inl (i64.wrap (a+1))))else(Cq.ret (.inr a))))
def yJ(a:(Fin 8->Int))(b:(Fin 8->Int)):Cq Int:=
 if a=b then(Cq.ret 0)else(Cq.next (Zna a b 0) λc=>match c with|d=>Znb a b d)
def Pm(b:Za)(c:Za):Cq Int:=
 Cq.bind (yJ c.m b.m) λa=>Cq.ret a
def Z0(l:Ŀ Za)(a b c:Int):Cq (Ŀ Za):=
 Cq.ì (a=0/\b=(l.length:Int)/\(0<=c/\c<1000000)/\l.length<=1000000) (Cq.any (λd=>d.Perm l/\d.Pairwise (λx y=>¬Ý x.m y.m<0)) Cq.ret)
def vg(a:Zg):Cq Int:=
 if(a.υ.length:Int)=0 then(Cq.ret 0)else(if a.neg=true then(Cq.ret (-1))else(Cq.ret 1))
def ZH(b:Zf):Cq Int:=
 Cq.bind (vg b.num) λa=>Cq.ret a
def Zm1(b:(Ŀ Int))(a:Int):Cq (Ŀ Int):=
 Cq.ì (0<=(0:Int)/\(0:Int)<=a/\a<=(b.length:Int)) (Cq.ret ((b.take a.toNat).drop (0:Int).toNat))
def Zm0(b:(Ŀ Int)):Int->Cq Int:=
 Cq.loop λc=>match c with|a=>if 0<a then(Cq.Λ b (i64.wrap (a-1)) λd=>if d=0 then(Cq.ret (.inl (i64.wrap (a-1))))else(Cq.ret (.inr a)))else(Cq.ret (.inr a))
def ZY(a:(Ŀ Int)):Cq (Ŀ Int):=
 Cq.next (Zm0 a (a.length:Int)) λb=>match b with|c=>Zm1 a c
def Aq(a:Int):Cq (Ŀ Int):=
 Cq.bind (ZY [u32.wrap a,u32.wrap (Int.fdiv a (2 ^ (min (32:Int).toNat u64.bits)))]) λb=>Cq.ret b
def ZS(b:Bool)(c:(Ŀ Int)):Cq Zg:=
 Cq.bind (ZY c) λa=>if(a.length:Int)=0 then(Cq.ret (Zg.mk false []))else(Cq.ret (Zg.mk b a))
def yO(a:Int):Cq Zg:=
 if a<0 then(Cq.bind (Aq (u64.wrap (0-(u64.wrap a)))) λb=>Cq.bind (ZS (decide (a<0)) b) λc=>Cq.ret c)else(Cq.bind (Aq (u64.wrap a)) λd=>Cq.bind (ZS (decide (a<0)) d) λe=>Cq.ret e)
def wV(a:Zg):Cq Bool:=
 if a.neg=true then(Cq.ret false)else(if(a.υ.length:Int)=1 then(Cq.Λ a.υ 0 λb=>Cq.ret (decide (b=1)))else(Cq.ret false))
def Zj0(a:(Ŀ Int)):Cq (Ŀ Int):=
 Cq.bind (ZY a) λb=>Cq.ret b
def Zj1(b:(Ŀ Int))(a:Int)(c:(Ŀ Int))(d:Int):Cq (((Ŀ Int)×Int)⊕(Ŀ Int)):=
 Cq.Λ c (i64.wrap (a+(b.length:Int))) λe=>Cq.ret (.inl ((c.set (i64.wrap (a+(b.length:Int))).toNat (u32.wrap d)),i64.wrap (a+1)))
def ZjZ(e:(Ŀ Int))(b:Int)(f:Int):((Ŀ Int)×Int×Int)->Cq (((Ŀ Int)×Int)):=
 Cq.loop λi=>match i with|(c,d,a)=>if a<(e.length:Int)then(Cq.Λ e a λg=>Cq.Λ c (i64.wrap (b+a)) λh=>Cq.Λ c (i64.wrap (b+a)) λj=>Cq.ret (.inl ((c.set (i64.wrap (b+a)).toNat (u32.wrap (u64.wrap ((u64.wrap ((u64.wrap ((u64.wrap f)*(u64.wrap g)))+(u64.wrap h)))+d)))),Int.fdiv (u64.wrap ((u64.wrap ((u64.wrap ((u64.wrap f)*(u64.wrap g)))+(u64.wrap h)))+d)) (2 ^ (min (32:Int).toNat u64.bits)),i64.wrap (a+1))))else(Cq.ret (.inr (c,d)))
def ZjY(b:(Ŀ Int))(c:(Ŀ Int)):((Ŀ Int)×Int)->Cq (Ŀ Int):=
 Cq.loop λg=>match g with|(d,a)=>if a<(b.length:Int)then(Cq.Λ b a λh=>Cq.next (ZjZ c a h (d,0,0)) λi=>match i with|(e,f)=>Zj1 c a e f)else(Cq.ret (.inr d))
def Py(a:(Ŀ Int))(b:(Ŀ Int)):Cq (Ŀ Int):=
 Cq.ì (0<=i64.wrap ((a.length:Int)+(b.length:Int))/\(i64.wrap ((a.length:Int)+(b.length:Int)))<=1000000) (Cq.next (ZjY a b ((List.replicate (i64.wrap ((a.length:Int)+(b.length:Int))).toNat 0),0)) λd=>match d with|c=>Zj0 c)
def EK(a:Zg)(b:Zg):Cq Zg:=
 Cq.bind (Py a.υ b.υ) λc=>Cq.bind (ZS (decide (¬a.neg=b.neg)) c) λd=>Cq.ret d
def Zji(a:Zg):Cq Zg:=
 Cq.ret a
def Zjh(d:(Ŀ Zg)):(Int×Zg)->Cq Zg:=
 Cq.loop λh=>match h with|(a,b)=>if a<(d.length:Int)then(Cq.Λ d a λc=>Cq.bind (wV c) λe=>if e=true then(Cq.ret (.inl (i64.wrap (a+1),b)))else(Cq.bind (wV b) λf=>if f=true then(Cq.ret (.inl (i64.wrap (a+1),c)))else(Cq.bind (EK b c) λg=>Cq.ret (.inl (i64.wrap (a+1),g)))))else(Cq.ret (.inr b))
def vl(c:(Ŀ Zg)):Cq Zg:=
 Cq.bind (yO 1) λa=>Cq.next (Zjh c (0,a)) λd=>match d with|b=>Zji b
def ZjX:Cq Int:=
 Cq.ret 0
def ZjW(b:(Ŀ Int))(c:(Ŀ Int)):Int->Cq (Int⊕Unit):=
 Cq.loop λd=>match d with|a=>if 0<=a then(Cq.Λ b a λe=>Cq.Λ c a λf=>if ¬e=f then(Cq.Λ b a λg=>Cq.Λ c a λh=>if g<h then(Cq.ret (.inr (.inl (-1))))else(Cq.ret (.inr (.inl 1))))else(Cq.ret (.inl (i64.wrap (a-1)))))else(Cq.ret (.inr (.inr ())))
def Ar(a:(Ŀ Int))(b:(Ŀ Int)):Cq Int:=
 if ¬(a.length:Int)=(b.length:Int)then(if(a.length:Int)<(b.length:Int)then(Cq.ret (-1))else(Cq.ret 1))else(Cq.next (ZjW a b (i64.wrap ((a.length:Int)-1))) λd=>match d with|.inl c=>Cq.ret c|.inr ()=>ZjX)
def RD(b:Zg)(c:Zg):Cq Int:=
 Cq.bind (vg b) λa=>Cq.bind (vg c) λd=>if ¬a=d then Cq.fail else(if a<0 then(Cq.bind (Ar c.υ b.υ) λe=>Cq.ret e)else(Cq.bind (Ar b.υ c.υ) λf=>Cq.ret f))
def vh(c:Zf)(d:Zf):Cq Int:=
 Cq.bind (ZH c) λa=>Cq.bind (ZH d) λb=>if ¬a=b then(if a<b then(Cq.ret (-1))else(Cq.ret 1))else(Cq.bind (vl [c.num,d.den]) λe=>Cq.bind (vl [d.num,c.den]) λf=>Cq.bind (RD e f) λg=>Cq.ret g)
def Ea(a:Za)(b:Za):Cq Int:=
 if ¬a.m=b.m then(Cq.bind (yJ a.m b.m) λd=>Cq.ret d)else(Cq.bind (vh a.c b.c) λe=>Cq.ret e)
def Zz(a:(Ŀ Za))(b:(Ŀ Za)):Cq Int:=
 if(a.length:Int)<(b.length:Int)then(Cq.ret (-1))else(Cq.ret 0)
def ZI(b:(Ŀ Za))(c:(Ŀ Za)):Int->Cq (Int⊕Unit):=
 Cq.loop λe=>match e with|a=>if a<(b.length:Int)then(Cq.Λ b a λf=>if(c.length:Int)<=a then(Cq.ret (.inr (.inl 1)))else(Cq.Λ c a λg=>Cq.bind (Ea f g) λd=>if ¬d=0 then(Cq.ret (.inr (.inl d)))else(Cq.ret (.inl (i64.wrap (a+1))))))else(Cq.ret (.inr (.inr ())))
def ZB(a:(Ŀ Za))(b:(Ŀ Za)):Cq Int:=
 Cq.next (ZI a b 0) λd=>match d with|.inl c=>Cq.ret c|.inr ()=>Zz a b
def Em(b:(Ŀ Za))(c:(Ŀ Za)):Cq Int:=
 Cq.bind (ZB b c) λa=>Cq.ret a
def Pf(l:Ŀ (Ŀ Za))(a b c:Int):Cq (Ŀ (Ŀ Za)):=
 Cq.ì (a=0/\b=(l.length:Int)/\(0<=c/\c<1000000)/\l.length<=1000000/\l.all Ñ=true) (Cq.ret (jz l))
def D'(a:Za)(b:Za):Cq Bool:=
 if a.m=b.m then(Cq.bind (vh a.c b.c) λd=>Cq.ret (decide (d=0)))else(Cq.ret false)
def Z5:Cq Bool:=
 Cq.ret true
def ZJ(b:(Ŀ Za))(c:(Ŀ Za)):Int->Cq (Bool⊕Unit):=
 Cq.loop λe=>match e with|a=>if a<(b.length:Int)then(Cq.Λ b a λf=>Cq.Λ c a λg=>Cq.bind (D' f g) λd=>if(!d)=true then(Cq.ret (.inr (.inl false)))else(Cq.ret (.inl (i64.wrap (a+1)))))else(Cq.ret (.inr (.inr ())))
def ZC(a:(Ŀ Za))(b:(Ŀ Za)):Cq Bool:=
 if ¬(a.length:Int)=(b.length:Int)then(Cq.ret false)else(Cq.next (ZJ a b 0) λd=>match d with|.inl c=>Cq.ret c|.inr ()=>Z5)
def ZU(b:(Ŀ Za))(c:(Ŀ Za)):Cq Bool:=
 Cq.bind (ZC b c) λa=>Cq.ret a
def Zj7(a:Int)(b:Int):Cq Int:=
 Cq.ì (0<=(u8.wrap a:Int)/\(u8.wrap a)<(Q3.size:Int)) (Cq.ret (i64.wrap (b+(i64.wrap (eP Q3 (u8.wrap a))))))
def Zj8(a:Int)(b:Int):Cq Int:=
 if 256<=a then Cq.fail else(Zj7 a b)
def Zj9(a:Int)(b:Int):Cq Int:=
 if 65536<=a then Cq.fail else(Zj8 a b)
def Pz(a:Int):Cq Int:=
 if 4294967296<=a then Cq.fail else(Zj9 a 0)
def tZ(b:Int):Cq Int:=
 Cq.bind (Pz b) λa=>Cq.ret a
def ZQ(a:(Ŀ (Ŀ Za))):Cq ((Ŀ (Ŀ Za))):=
 Cq.bind (tZ (u64.wrap (a.length:Int))) λb=>Cq.bind (Pf a 0 (a.length:Int) b) λc=>Cq.ret c
def Ap(a:(Ŀ Int)):Cq (Ŀ Int):=
 Cq.ì (([]++a).length<=small) (Cq.ret ([]++a))
def Zl9(a:Int):Cq Int:=
 Cq.ret a
def Zl8(b:(Ŀ Int)):(Int×Int)->Cq Int:=
 Cq.loop λd=>match d with|(c,a)=>if a<(b.length:Int)then(Cq.Λ b a λe=>Cq.ì (0<=(i64.wrap (32*a))) (Cq.ret (.inl (u64.wrap (BitVec.ofInt u64.bits c ||| BitVec.ofInt u64.bits (u64.wrap ((u64.wrap e)*2 ^ (min (i64.wrap (32*a)).toNat u64.bits)))).toNat,i64.wrap (a+1)))))else(Cq.ret (.inr c))
def JX(a:(Ŀ Int)):Cq Int:=
 Cq.next (Zl8 a (0,0)) λb=>match b with|c=>Zl9 c
def Zhe(c:(Ŀ Int))(a:Int):Cq ((Ŀ Int)×Int):=
 Cq.bind (ZY c) λb=>Cq.ret (b,a)
def Zhd(f:(Ŀ Int))(c:Int):((Ŀ Int)×Int×Int)->Cq (((Ŀ Int)×Int)):=
 Cq.loop λg=>match g with|(d,a,b)=>if 0<=b then(Cq.Λ f b λe=>Cq.ì (c≠0) (Cq.Λ d b λh=>Cq.ì (c≠0) (Cq.ret (.inl ((d.set b.toNat (u32.wrap (u64.wrap (Int.tdiv (u64.wrap (BitVec.ofInt u64.bits (u64.wrap (a*2 ^ (min (32:Int).toNat u64.bits))) ||| BitVec.ofInt u64.bits (u64.wrap e)).toNat) c)))),Int.tmod (u64.wrap (BitVec.ofInt u64.bits (u64.wrap (a*2 ^ (min (32:Int).toNat u64.bits))) ||| BitVec.ofInt u64.bits (u64.wrap e)).toNat) c,i64.wrap (b-1))))))else(Cq.ret (.inr (d,a)))
def Pk(a:(Ŀ Int))(c:Int):Cq ((Ŀ Int)×Int):=
 Cq.ì (0<=(a.length:Int)/\(a.length:Int)<=1000000) (Cq.next (Zhd a c ((List.replicate (a.length:Int).toNat 0),0,i64.wrap ((a.length:Int)-1))) λd=>match d with|(e,b)=>Zhe e b)
def JD(d:(Ŀ Int))(e:(Ŀ Int)):Cq ((Ŀ Int)×(Ŀ Int)):=
 Cq.bind (ZY d) λa=>Cq.bind (ZY e) λb=>Cq.bind (Ar a b) λf=>if f<0 then(Cq.bind (Ap a) λg=>Cq.ret ([],g))else(if(b.length:Int)=1 then(Cq.Λ b 0 λi=>Cq.bind (Pk a (u64.wrap i)) λc=>Cq.bind (Aq c.2) λh=>Cq.ret (c.1,h))else Cq.fail)
def Zn7(b:(Ŀ Int)):Cq Zg:=
 Cq.bind (ZS false b) λa=>Cq.ret a
def Zn8(c:Int):Cq (((Ŀ Int)×(Ŀ Int)×Zg)⊕(Zg⊕((Ŀ Int)×Zg))):=
 Cq.bind (Aq c) λb=>Cq.bind (ZS false b) λa=>Cq.ret (.inr (.inl a))
def Zn6:(Int×Int)->Cq Int:=
 Cq.loop λc=>match c with|(b,a)=>if 0<a then(Cq.ì (a≠0) (Cq.ret (.inl (a,Int.tmod b a))))else(Cq.ret (.inr b))
def JC(d:(Ŀ Int))(a:(Ŀ Int))(e:Zg)(b:Bool):Cq (((Ŀ Int)×(Ŀ Int)×Zg)⊕(Zg⊕((Ŀ Int)×Zg))):=
 if b=true then(Cq.bind (JX d) λf=>Cq.bind (JX a) λg=>Cq.next (Zn6 (f,g)) λh=>match h with|i=>Zn8 i)else(Cq.bind (JD d a) λc=>Cq.ret (.inl (a,c.2,e)))
def Zn5:((Ŀ Int)×(Ŀ Int)×Zg)->Cq (Zg⊕((Ŀ Int)×Zg)):=
 Cq.loop λd=>match d with|(c,a,b)=>if 0<(a.length:Int)then(if(c.length:Int)<=2 then(JC c a b (decide ((a.length:Int)<=2)))else(JC c a b false))else(Cq.ret (.inr (.inr (c,b))))
def xl(f:Zg)(g:Zg):Cq Zg:=
 Cq.bind (ZY f.υ) λa=>Cq.bind (Ap a) λb=>Cq.bind (ZY g.υ) λc=>Cq.bind (Ap c) λd=>Cq.next (Zn5 (b,d,(Zg.mk false []))) λh=>match h with|.inl e=>Cq.ret e|.inr (i,j)=>Zn7 i
def JW(a:Zg):Cq Bool:=
 if(a.υ.length:Int)=0 then(Cq.ret (!a.neg))else(Cq.Λ a.υ (i64.wrap ((a.υ.length:Int)-1)) λb=>Cq.ret (decide (¬b=0)))
def Zk0(a:Zf):Cq Bool:=
 Cq.bind (wV a.den) λb=>match b with|false=>(Cq.bind (xl a.num a.den) λc=>Cq.bind (wV c) λd=>Cq.ret d)|true=>(Cq.ret true)
def ZZ(a:Zf):Cq Bool:=
 Cq.bind (JW a.num) λb=>match b with|false=>(Cq.ret false)|true=>(Cq.bind (JW a.den) λc=>match c with|false=>(Cq.ret false)|true=>(Cq.bind (vg a.den) λd=>if d<=0 then Cq.fail else(Zk0 a)))
def ZkZ:Cq Bool:=
 Cq.ret true
def ZkY(b:(Fin 8->Int)):Int->Cq (Bool⊕Unit):=
 Cq.loop λc=>match c with|a=>if a<8 then(Cq.ì (0<=a/\a<8) (if(Η b a)<0 then(Cq.ret (.inr (.inl false)))else(if 65535<(Η b a)then Cq.fail else(Cq.ret (.inl (i64.wrap (a+1)))))))else(Cq.ret (.inr (.inr ())))
def Ek(b:(Fin 8->Int)):Cq Bool:=
 Cq.next (ZkY b 0) λc=>match c with|.inl a=>Cq.ret a|.inr ()=>ZkZ
def Zjg:Cq Bool:=
 Cq.ret true
def I9(c:(Ŀ Za))(a:Int)(d:Za):Cq (Int⊕(Bool⊕Unit)):=
 if 0<a then(Cq.Λ c (i64.wrap (a-1)) λe=>Cq.bind (yJ e.m d.m) λb=>if b<=0 then Cq.fail else(Cq.ret (.inl (i64.wrap (a+1)))))else(Cq.ret (.inl (i64.wrap (a+1))))
def Zjf(d:(Ŀ Za)):Int->Cq (Bool⊕Unit):=
 Cq.loop λh=>match h with|a=>if a<(d.length:Int)then(Cq.Λ d a λb=>Cq.bind (ZZ b.c) λe=>match e with|false=>(Cq.ret (.inr (.inl false)))|true=>(Cq.bind (ZH b.c) λf=>if f=0 then(Cq.ret (.inr (.inl false)))else(Cq.bind (Ek b.m) λg=>if(!g)=true then(Cq.ret (.inr (.inl false)))else(I9 d a b))))else(Cq.ret (.inr (.inr ())))
def Am(b:(Ŀ Za)):Cq Bool:=
 Cq.next (Zjf b 0) λc=>match c with|.inl a=>Cq.ret a|.inr ()=>Zjg
def Zjc(a:Int):Cq Int:=
 Cq.ret a
def Zjb(c:(Fin 8->Int)):(Int×Int)->Cq Int:=
 Cq.loop λd=>match d with|(b,a)=>if a<8 then(Cq.ì (0<=a/\a<8) (if 0<(Η c a)then(Cq.ì (0<=a) (Cq.ret (.inl (u8.wrap (BitVec.ofInt u8.bits b ||| BitVec.ofInt u8.bits (u8.wrap (1*2 ^ (min (a).toNat u8.bits)))).toNat,i64.wrap (a+1)))))else(Cq.ret (.inl (b,i64.wrap (a+1))))))else(Cq.ret (.inr b))
def Jr(a:(Fin 8->Int)):Cq Int:=
 Cq.next (Zjb a (0,0)) λb=>match b with|c=>Zjc c
def Zkn(a:Int):Cq Int:=
 Cq.ret a
def Zkm(b:(Ŀ Za)):(Int×Int)->Cq Int:=
 Cq.loop λe=>match e with|(c,a)=>if a<(b.length:Int)then(Cq.Λ b a λf=>Cq.bind (Jr f.m) λd=>Cq.ret (.inl (u8.wrap (BitVec.ofInt u8.bits c ||| BitVec.ofInt u8.bits d).toNat,i64.wrap (a+1))))else(Cq.ret (.inr c))
def As(a:(Ŀ Za)):Cq Int:=
 Cq.next (Zkm a (0,0)) λb=>match b with|c=>Zkn c
def Zkc(a:Int):Cq Int:=
 Cq.ret a
def Zkb(c:(Fin 8->Int)):(Int×Int)->Cq Int:=
 Cq.loop λd=>match d with|(b,a)=>if a<8 then(Cq.ì (0<=a/\a<8) (Cq.ret (.inl (i64.wrap (b+(Η c a)),i64.wrap (a+1)))))else(Cq.ret (.inr b))
def Jk(a:(Fin 8->Int)):Cq Int:=
 Cq.next (Zkb a (0,0)) λb=>match b with|c=>Zkc c
def Ziu(a:Int):Cq Int:=
 Cq.ret a
def Zit(d:(Ŀ Za)):(Int×Int)->Cq Int:=
 Cq.loop λe=>match e with|(c,a)=>if a<(d.length:Int)then(Cq.Λ d a λf=>Cq.bind (Jk f.m) λb=>Cq.ret (.inl (if c<b then b else c,i64.wrap (a+1))))else(Cq.ret (.inr c))
def wY(a:(Ŀ Za)):Cq Int:=
 Cq.next (Zit a ((-1),0)) λb=>match b with|c=>Ziu c
def ê(a:ZD)(b:(Ŀ Za))(f:Int):Cq Bool:=
 Cq.bind (Am b) λc=>match c with|false=>(Cq.ret false)|true=>(Cq.bind (As b) λd=>Cq.ì (0<=a.k.n) (if(Int.fdiv (i64.wrap d) (2 ^ (min (a.k.n).toNat i64.bits)))=0 then(Cq.bind (wY b) λe=>Cq.ret (decide (e<=f)))else(Cq.ret false)))
def ZkX(d:Zg)(e:Zg)(f:(Ŀ Int))(a:(Ŀ Int)):Cq (Zg×Zg×Int):=
 Cq.bind (ZS (decide (¬d.neg=e.neg)) f) λb=>Cq.bind (ZS false a) λc=>Cq.ret (b,c,0)
def Ps(c:Zg)(d:Zg)(b:(Ŀ Int)×(Ŀ Int))(a:Bool):Cq (Zg×Zg×Int):=
 if a=true then Cq.fail else(ZkX c d b.1 b.2)
def Ax(b:Zg)(c:Zg):Cq (Zg×Zg×Int):=
 Cq.bind (ZY c.υ) λd=>if(d.length:Int)=0 then Cq.fail else(Cq.bind (JD b.υ c.υ) λa=>if b.neg=true then(Ps b c a (decide (0<(a.2.length:Int))))else(Ps b c a false))
def Au(c:Zg)(a:Zg):Cq Zf:=
 Cq.bind (wV a) λd=>if d=true then(Cq.ret (Zf.mk c a))else(Cq.bind (xl c a) λb=>Cq.bind (wV b) λe=>if e=true then(Cq.ret (Zf.mk c a))else(Cq.bind (Ax c b) λf=>Cq.bind (Ax a b) λg=>Cq.ret (Zf.mk f.1 g.1)))
def Ew(e:Zg)(a:Zg):Cq (Zf×Int):=
 Cq.bind (vg a) λb=>if b=0 then Cq.fail else(Cq.bind (vg a) λc=>if c<0 then Cq.fail else(Cq.bind (Au e a) λd=>Cq.ret (d,0)))
def Znd(a:(Fin 8->Int)):Cq ((Fin 8->Int)×Int):=
 Cq.bind (Ek a) λb=>if(!b)=true then Cq.fail else(Cq.ret (a,0))
def Znc(c:(Fin 8->Int)):(Int×(Fin 8->Int))->Cq (Fin 8->Int):=
 Cq.loop λd=>match d with|(a,b)=>if a<8 then(Cq.ì (0<=a/\a<8) (Cq.ì (0<=a/\a<8) (Cq.ì (0<=a/\a<8) (Cq.ret (.inl (i64.wrap (a+1),ζ b a.toNat (i64.wrap ((Η b a)+(Η c a)))))))))else(Cq.ret (.inr b))
def Ke(b:(Fin 8->Int))(c:(Fin 8->Int)):Cq ((Fin 8->Int)×Int):=
 Cq.next (Znc c (0,b)) λd=>match d with|a=>Znd a
def Z9(c:Zf)(d:Zf):Cq Zf:=
 Cq.bind (Au c.num d.den) λa=>Cq.bind (Au d.num c.den) λb=>Cq.bind (vl [a.num,b.num]) λe=>Cq.bind (vl [a.den,b.den]) λf=>Cq.ret (Zf.mk e f)
def Zje(a:(Ŀ Za)):Cq ((Ŀ Za)×Int):=
 Cq.ret (a,0)
def Zjd(h:Zf)(i:(Fin 8->Int))(f:(Ŀ Za)):((Ŀ Za)×Int)->Cq (((Ŀ Za)×Int)⊕(Ŀ Za)):=
 Cq.loop λj=>match j with|(b,a)=>if a<(f.length:Int)then(Cq.Λ f a λg=>Cq.bind (Ke i g.m) λd=>if ¬d.2=0 then Cq.fail else(Cq.bind (Z9 h g.c) λe=>Cq.ì ((b++[(Za.mk e d.1)]).length<=small) (Cq.ret (.inl ((b++[(Za.mk e d.1)]),i64.wrap (a+1))))))else(Cq.ret (.inr (.inr b)))
def Js(b:Zf)(f:(Fin 8->Int))(a:(Ŀ Za)):Cq ((Ŀ Za)×Int):=
 Cq.bind (ZH b) λc=>if c=0 then Cq.fail else(Cq.ì (0<=(a.length:Int)/\(a.length:Int)<=1000000) (Cq.next (Zjd b f a (([]:Ŀ Za),0)) λg=>match g with|.inl d=>Cq.ret d|.inr e=>Zje e))
def yD(a:Zg):Cq Zg:=
 Cq.bind (Ap a.υ) λb=>Cq.bind (ZS (!a.neg) b) λc=>Cq.ret c
def PZ(a:(Ŀ Za))(b:Zg)(c:Zg):Cq (Ŀ Za):=
 Cq.bind (Ew c b) λd=>Cq.bind (Js d.1 (λ_=>0) a) λe=>Cq.ret e.1
def JH(a:(Ŀ Za))(b:Zg)(d:Zg):Cq (Ŀ Za):=
 Cq.Λ a 0 λg=>Cq.bind (ZH g.c) λe=>if e<0 then(Cq.bind (yD d) λf=>PZ a b f)else(PZ a b d)
def PY(b:(Ŀ Za)):(Int×Zg×Zg)->Cq (Zg×Zg):=
 Cq.loop λk=>match k with|(a,e,d)=>if a<(b.length:Int)then(Cq.Λ b a λf=>Cq.bind (xl e f.c.num) λh=>Cq.bind (xl d f.c.den) λi=>Cq.bind (Ax f.c.den i) λj=>Cq.bind (EK d j.1) λg=>Cq.ret (.inl (i64.wrap (a+1),h,g)))else(Cq.ret (.inr (e,d)))
def AD(a:(Ŀ Za)):Cq (Ŀ Za):=
 if(a.length:Int)=0 then Cq.fail else(Cq.bind (yO 0) λb=>Cq.bind (yO 1) λc=>Cq.next (PY a (0,b,c)) λf=>match f with|(d,e)=>JH a d e)
def gg:Cq Bool:=
 Cq.ret true
def gf(e:ZD)(d:(Ŀ (Ŀ Za)))(b:Int):Int->Cq (Bool⊕Unit):=
 Cq.loop λk=>match k with|a=>if a<(d.length:Int)then(Cq.Λ d a λc=>Cq.bind (ê e c 12) λf=>match f with|false=>(Cq.ret (.inr (.inl false)))|true=>(Cq.bind (wY c) λg=>if g<b then(Cq.ret (.inr (.inl false)))else(Cq.bind (AD c) λh=>Cq.bind (ZU h c) λi=>if(!i)=true then(Cq.ret (.inr (.inl false)))else(if 0<a then(Cq.Λ d (i64.wrap (a-1)) λl=>Cq.bind (Em l c) λj=>if 0<=j then(Cq.ret (.inr (.inl false)))else(Cq.ret (.inl (i64.wrap (a+1)))))else(Cq.ret (.inl (i64.wrap (a+1))))))))else(Cq.ret (.inr (.inr ())))
def ÿ(b:ZD)(c:(Ŀ (Ŀ Za)))(a:Int):Cq Bool:=
 if 12<(c.length:Int)then(Cq.ret false)else(Cq.next (gf b c a 0) λe=>match e with|.inl d=>Cq.ret d|.inr ()=>gg)
def Â(a:ZD):Cq Bool:=
 if 1<=a.k.n then(if a.k.n<=4 then(Cq.bind (ÿ a a.k.eqs 0) λb=>match b with|false=>(Cq.ret false)|true=>(Cq.bind (ÿ a a.k.δ 1) λc=>Cq.ret c))else(Cq.ret false))else(Cq.ret false)
def vj(b:Zc):Cq Bool:=
 Cq.bind (Â (ZD.mk b)) λa=>Cq.ret a
def vn(k:Zc):Cq Ĳ:=Cq.bind (vj k) λv=>match v with|true=>Cq.ì (0<=k.n/\(gY k).length<=1000000) (Cq.ret (bytesOf (gY k)))|false=>Cq.ret ByteArray.empty
def ZK(a:(Ŀ Za)):Cq (Ŀ Za):=
 Cq.bind (tZ (u64.wrap (a.length:Int))) λb=>Cq.bind (Z0 a 0 (a.length:Int) b) λc=>Cq.ret c
def Ziw(a:(Ŀ Za)):Cq (Ŀ Za):=
 Cq.bind (ZK a) λb=>Cq.ret b
def Ziv:((Ŀ Za)×Ŀ ((Fin 8->Int)×Zf))->Cq (Ŀ Za):=
 Cq.loop λd=>match d with|(a,f)=>Cq.pick f (Cq.ret (.inr a)) λb e=>Cq.bind (ZH b.2) λc=>if ¬c=0 then(Cq.ì ((a++[(Za.mk b.2 b.1)]).length<=small) (Cq.ret (.inl ((a++[(Za.mk b.2 b.1)]),e))))else(Cq.ret (.inl (a,e)))
def Je(a:(Ŀ ((Fin 8->Int)×Zf))):Cq (Ŀ Za):=
 Cq.ì (0<=(a.length:Int)/\(a.length:Int)<=1000000) (Cq.next (Ziv (([]:Ŀ Za),a)) λc=>match c with|b=>Ziw b)
def ZhE(a:(Ŀ ((Fin 8->Int)×Zf))):Cq ((Ŀ Za)×Int):=
 Cq.bind (Je a) λb=>Cq.ret (b,0)
def ZhF(b:Int)(d:(Ŀ ((Fin 8->Int)×Zf)))(e:Za)(a:(Fin 8->Int)):Cq ((Int×(Ŀ ((Fin 8->Int)×Zf)))⊕(((Ŀ ((Fin 8->Int)×Zf))))):=
 Cq.ì ((∀i,(Lit.int i64 (a i)).wf=true)/\(eV d a e.c).length<=small) (Cq.ret (.inl (i64.wrap (b+1),(eV d a e.c))))
def Po(b:(Fin 8->Int))(d:Za):(Int×(Fin 8->Int))->Cq (Fin 8->Int):=
 Cq.loop λe=>match e with|(a,c)=>if a<8 then(Cq.ì (0<=a/\a<8) (Cq.ì (0<=a/\a<8) (Cq.ì (0<=Η b a/\(Η b a)<8) (Cq.ret (.inl (i64.wrap (a+1),ζ c ((Η b a).toNat) (Η d.m a)))))))else(Cq.ret (.inr c))
def ZhC(d:(Ŀ Za))(b:(Fin 8->Int)):(Int×(Ŀ ((Fin 8->Int)×Zf)))->Cq (((Ŀ ((Fin 8->Int)×Zf)))):=
 Cq.loop λg=>match g with|(a,c)=>if a<(d.length:Int)then(Cq.Λ d a λe=>Cq.next (Po b e (0,(λ_=>0))) λh=>match h with|f=>ZhF a c e f)else(Cq.ret (.inr c))
def Pp(c:(Ŀ Za))(a:(Fin 8->Int)):Cq ((Ŀ Za)×Int):=
 Cq.next (ZhC c a (0,[])) λd=>match d with|b=>ZhE b
def ZhD(b:(Fin 8->Int)):(Int×(Fin 8->Bool))->Cq (((Ŀ Za)×Int)⊕Unit):=
 Cq.loop λd=>match d with|(a,c)=>if a<8 then(Cq.ì (0<=a/\a<8) (if(Η b a)<0 then(Cq.ret (.inr (.inl ([],1))))else(if 8<=(Η b a)then(Cq.ret (.inr (.inl ([],1))))else(Cq.ì (0<=Η b a/\(Η b a)<8) (if(Η c (Η b a))=true then Cq.fail else(Cq.ì (0<=Η b a/\(Η b a)<8) (Cq.ret (.inl (i64.wrap (a+1),ζ c ((Η b a).toNat) true)))))))))else(Cq.ret (.inr (.inr ())))
def Z8(c:(Ŀ Za))(a:(Fin 8->Int)):Cq ((Ŀ Za)×Int):=
 Cq.next (ZhD a (0,(λ_=>false))) λd=>match d with|.inl b=>Cq.ret b|.inr ()=>Pp c a
def Zky(a:(Ŀ (Ŀ Za))):Cq ((Ŀ (Ŀ Za))):=
 Cq.ret a
def Zkx(d:(Ŀ (Ŀ Za)))(c:(Fin 8->Int)):((Ŀ (Ŀ Za))×Int)->Cq (((Ŀ (Ŀ Za)))):=
 Cq.loop λf=>match f with|(b,a)=>if a<(d.length:Int)then(Cq.Λ d a λg=>Cq.bind (Z8 g c) λe=>Cq.Λ b a λh=>Cq.ret (.inl ((b.set a.toNat e.1),i64.wrap (a+1))))else(Cq.ret (.inr b))
def Av(a:(Ŀ (Ŀ Za)))(b:(Fin 8->Int)):Cq ((Ŀ (Ŀ Za))):=
 Cq.ì (0<=(a.length:Int)/\(a.length:Int)<=1000000) (Cq.next (Zkx a b ((List.replicate (a.length:Int).toNat []),0)) λd=>match d with|c=>Zky c)
def ZcR(a:(Ŀ (Ŀ Za))):Cq ((Ŀ (Ŀ Za))):=
 Cq.ret a
def ZcP(b:(Ŀ (Ŀ (Ŀ Za)))):((Ŀ (Ŀ Za))×Int)->Cq (((Ŀ (Ŀ Za)))):=
 Cq.loop λe=>match e with|(a,c)=>if c<(b.length:Int)then(Cq.Λ b c λd=>Cq.ì ((a++d).length<=small) (Cq.ret (.inl ((a++d),i64.wrap (c+1)))))else(Cq.ret (.inr a))
def ZcS(b:(Ŀ (Ŀ (Ŀ Za))))(c:Int):Cq ((Ŀ (Ŀ Za))):=
 Cq.bind (Pd c) λd=>Cq.next (ZcP b (d,0)) λe=>match e with|a=>ZcR a
def ZcQ(a:(Ŀ (Ŀ (Ŀ Za)))):(Int×Int)->Cq Int:=
 Cq.loop λe=>match e with|(b,c)=>if c<(a.length:Int)then(Cq.Λ a c λd=>if(i64.wrap (b+(d.length:Int)))<0 then Cq.fail else(Cq.ret (.inl (i64.wrap (b+(d.length:Int)),i64.wrap (c+1)))))else(Cq.ret (.inr b))
def I8(a:(Ŀ (Ŀ (Ŀ Za)))):Cq ((Ŀ (Ŀ Za))):=
 Cq.next (ZcQ a (0,0)) λc=>match c with|b=>ZcS a b
def PN(b:Zg):Cq Zf:=
 Cq.bind (yO 1) λa=>Cq.ret (Zf.mk b a)
def wU(c:Int):Cq Zf:=
 Cq.bind (yO c) λa=>Cq.bind (PN a) λb=>Cq.ret b
def D3(a:Zf):Cq (Ŀ Za):=
 Cq.bind (ZH a) λb=>if b=0 then Cq.fail else(Cq.ret [(Za.mk a (λ_=>0))])
def Kz(a:(Ŀ Za))(b:Int):Cq Bool:=
 Cq.bind (Am a) λc=>match c with|false=>(Cq.ret false)|true=>(Cq.bind (As a) λd=>Cq.ì (0<=b) (if(Int.fdiv (i64.wrap d) (2 ^ (min (b).toNat i64.bits)))=0 then(Cq.bind (wY a) λe=>Cq.ret (decide (e<=12)))else(Cq.ret false)))
def PF(e:Int)(a:(Ŀ (Ŀ Za)))(b:(Ŀ (Ŀ Za))):Cq (Zc×Int):=
 Cq.bind (Ef a) λc=>Cq.bind (Ef b) λd=>if 12<(c.length:Int)then(Cq.ret ((Zc.mk 0 [] []),2))else(if 12<(d.length:Int)then(Cq.ret ((Zc.mk 0 [] []),2))else(Cq.ret ((Zc.mk e c d),0)))
def Zmv(d:(Ŀ (Ŀ Za))):((Ŀ (Ŀ Za))×(Ŀ (Ŀ Za))×Int)->Cq (((Ŀ (Ŀ Za))×(Ŀ (Ŀ Za)))):=
 Cq.loop λj=>match j with|(a,b,c)=>if c<(d.length:Int)then(Cq.Λ d c λg=>if(g.length:Int)=0 then(Cq.bind (wU 1) λh=>Cq.bind (D3 h) λe=>Cq.ì ((a++[e]).length<=small) (Cq.ret (.inl ((a++[e]),b,i64.wrap (c+1)))))else(Cq.bind (wY g) λi=>if 0<i then(Cq.bind (AD g) λf=>Cq.ì ((b++[f]).length<=small) (Cq.ret (.inl (a,(b++[f]),i64.wrap (c+1)))))else(Cq.ret (.inl (a,b,i64.wrap (c+1))))))else(Cq.ret (.inr (a,b)))
def PG(d:Int)(e:(Ŀ (Ŀ Za)))(a:(Ŀ (Ŀ Za))):Cq (Zc×Int):=
 Cq.next (Zmv e (a,[],0)) λf=>match f with|(b,c)=>PF d b c
def Zmw(c:(Ŀ (Ŀ Za))):((Ŀ (Ŀ Za))×Int)->Cq (((Ŀ (Ŀ Za)))):=
 Cq.loop λf=>match f with|(a,b)=>if b<(c.length:Int)then(Cq.Λ c b λe=>if 0<(e.length:Int)then(Cq.bind (AD e) λd=>Cq.ì ((a++[d]).length<=small) (Cq.ret (.inl ((a++[d]),i64.wrap (b+1)))))else(Cq.ret (.inl (a,i64.wrap (b+1)))))else(Cq.ret (.inr a))
def PH(b:Int)(c:(Ŀ (Ŀ Za)))(d:(Ŀ (Ŀ Za))):Cq (Zc×Int):=
 Cq.next (Zmw c ([],0)) λe=>match e with|a=>PG b d a
def PE(d:Int)(b:(Ŀ (Ŀ Za))):(Int×Zc)->Cq ((Zc×Int)⊕Zc):=
 Cq.loop λf=>match f with|(a,c)=>if a<(b.length:Int)then(Cq.Λ b a λg=>Cq.bind (Kz g d) λe=>if(!e)=true then(Cq.ret (.inr (.inl ((Zc.mk 0 [] []),1))))else(Cq.ret (.inl (i64.wrap (a+1),c))))else(Cq.ret (.inr (.inr c)))
def PI(a:Int)(b:(Ŀ (Ŀ Za)))(c:(Ŀ (Ŀ Za)))(d:Zc):Cq (Zc×Int):=
 Cq.bind (I8 [b,c]) λe=>Cq.next (PE a e (0,d)) λg=>match g with|.inl f=>Cq.ret f|.inr h=>PH a b c
def Ee(a:Int)(b:(Ŀ (Ŀ Za)))(c:(Ŀ (Ŀ Za))):Cq (Zc×Int):=
 if a<1 then(Cq.ret ((Zc.mk 0 [] []),1))else(if 4<a then(Cq.ret ((Zc.mk 0 [] []),1))else(PI a b c (Zc.mk 0 [] [])))
def r6(k:Zc)(p:(Fin 8->Int))(s:Zc×(Fin 8->Int)×Ĳ):Cq (Zc×(Fin 8->Int)×Ĳ):=Cq.bind (Av k.eqs p) λa=>Cq.bind (Av k.δ p) λb=>Cq.bind (Ee k.n a b) λr=>if ¬r.2=0 then Cq.ret s else Cq.bind (vn r.1) λt=>if s.2.2=ByteArray.empty then Cq.ret (r.1,p,t)else if Op.bytesLess t.toList s.2.2.toList=true then Cq.ret (r.1,p,t)else Cq.ret s
def nc(k:Zc):Ŀ (Fin 8->Int)->(Zc×(Fin 8->Int)×Ĳ)->Cq (Zc×(Fin 8->Int)×Ĳ)
 |[],s=>Cq.ret s
 |p::l,s=>Cq.bind (r6 k p s) λs'=>nc k l s'
def wT(k:Zc):Cq (Zc×(Fin 8->Int)):=Cq.ì (1<=k.n/\k.n<=4) (Cq.bind (nc k (Α k.n.toNat) (⟨0,[],[]⟩,(λ_=>0),ByteArray.empty)) λs=>Cq.ret (s.1,s.2.1))
def A4(q:Zb):Cq Ĳ:=Cq.ì ((oF q).length<=1000000) (Cq.ret (bytesOf (oF q)))
def cmp_isNaN_int(a:Int):Cq Bool:=
 Cq.ret (decide (¬a=a))
def D7(b:Int)(a:Int):Cq Int:=
 Cq.bind (cmp_isNaN_int b) λc=>Cq.bind (cmp_isNaN_int a) λd=>if c=true then Cq.fail else(if d=true then Cq.fail else(if b<a then(Cq.ret (-1))else(if a<b then(Cq.ret 1)else(Cq.ret 0))))
def ZpB:Cq Int:=
 Cq.ret 0
def ZpA(b:(Ŀ Int)):Int->Cq (Int⊕Unit):=
 Cq.loop λd=>match d with|a=>if a<(b.length:Int)then(Cq.Λ b a λc=>if ¬c=0 then(Cq.ret (.inr (.inl c)))else(Cq.ret (.inl (i64.wrap (a+1)))))else(Cq.ret (.inr (.inr ())))
def Kl(a:(Ŀ Int)):Cq Int:=
 Cq.next (ZpA a 0) λc=>match c with|.inl b=>Cq.ret b|.inr ()=>ZpB
def J1(a:Ze)(b:Ze):Cq Int:=
 Cq.bind (D7 a.ψ b.ψ) λc=>Cq.bind (D7 a.id b.id) λd=>Cq.bind (Kl [c,d]) λe=>Cq.ret e
def Ph(l:Ŀ Ze)(a b c:Int):Cq (Ŀ Ze):=
 Cq.ì (a=0/\b=(l.length:Int)/\(0<=c/\c<1000000)/\l.length<=1000000) (Cq.any (λd=>d.Perm l/\d.Pairwise (λx y=>¬ll y x<0)) Cq.ret)
def Jl(b:Zb)(a:Bool):Cq (Ŀ Zb):=
 if a=true then(Cq.ret [(Zb.mk 5 [] [])])else(if b.kind=7 then(Cq.ret [(Zb.mk 6 [] [])])else(Cq.ret []))
def Jm(a:Zb)(b:Bool):Cq (Ŀ Zb):=
 if b=true then(Cq.ret [(Zb.mk 4 [] [])])else(if a.kind=6 then(Jl a (decide (a.kind=6)))else(Jl a (decide (a.kind=10))))
def yK(a:Zb):Cq (Ŀ Zb):=
 if a.kind=5 then(Jm a (decide (a.kind=5)))else(Jm a (decide (a.kind=8)))
def tG(c:Zc)(d:Zb):Cq Ĳ:=
 Cq.bind (vn c) λa=>Cq.bind (A4 d) λb=>Cq.ì ((a.size:Int)+b.size<=1000000) (Cq.ret (a++b))
abbrev nK:=(Int×Int)×Ŀ (Ĳ×Int)×Zd
def oT(f:Zb->Ŀ (Ĳ×Int)->Zd->Cq nK)(T:Ŀ (Ĳ×Int)->Zd->Cq nK):Ŀ Zb->Ŀ (Ĳ×Int)->Zd->Cq nK
 |[],D,B=>T D B
 |x::l,D,B=>Cq.bind (f x D B) λo=>Cq.ì (o.1.2=0) (oT f T l o.2.1 o.2.2)
def te(k:Zc)(q:Zb)(D:Ŀ (Ĳ×Int))(B:Zd):Cq nK:=
 Cq.bind (tG k q) λs=>Cq.ì (s.size<=1000000) (match fh D s with
  |some a=>Cq.ret ((a,0),D,B)
  |none=>Cq.ì (((B.t.length:Int)<100/\B.next<1000000)/\(eV D s B.next).length<=small) (Cq.ret ((B.next,0),eV D s B.next,⟨B.t++[Ze.mk B.next k q 0 0 (-1) false],i64.wrap (B.next+1)⟩)))
def vk:Nat->Zc->Zb->Ŀ (Ĳ×Int)->Zd->Cq nK
 |0,_,_,_,_=>Cq.fail
 |n+1,k,q,D,B=>Cq.bind (yK q) λl=>oT (vk n k) (te k q) l D B
def Fc(a:(Ŀ Int))(b:Int):Cq (Ŀ Int):=
 Cq.ì ((a++[u8.wrap b]).length<=small) (Cq.ret (a++[u8.wrap b]))
def Fb:((Ŀ Int)×Int)->Cq (((Ŀ Int)×Int)):=
 Cq.loop λc=>match c with|(b,a)=>if 127<a then(Cq.ì ((b++[u8.wrap ((u8.wrap (Int.tmod a 128))+128)]).length<=small) (Cq.ret (.inl ((b++[u8.wrap ((u8.wrap (Int.tmod a 128))+128)]),u64.wrap (Int.tdiv a 128)))))else(Cq.ret (.inr (b,a)))
def uo(a:(Ŀ Int))(b:Int):Cq (Ŀ Int):=
 Cq.next (Fb (a,b)) λc=>match c with|(d,e)=>Fc d e
def AN(b:(Ŀ Int))(a:Int):Cq (Ŀ Int):=
 if a<0 then(Cq.bind (uo b (u64.wrap ((u64.wrap ((u64.wrap (i64.wrap (0-(i64.wrap (a+1)))))*2))+1))) λc=>Cq.ret c)else(Cq.bind (uo b (u64.wrap ((u64.wrap a)*2))) λd=>Cq.ret d)
def Zqy(a:(Ŀ Int)):Cq (Ŀ Int):=
 Cq.ret a
def Zqx(d:Zg):((Ŀ Int)×Int)->Cq (Ŀ Int):=
 Cq.loop λe=>match e with|(b,c)=>if c<(d.υ.length:Int)then(Cq.Λ d.υ c λa=>Cq.ì ((b++[u8.wrap (Int.fdiv a (2 ^ (min (24:Int).toNat u32.bits))),u8.wrap (Int.fdiv a (2 ^ (min (16:Int).toNat u32.bits))),u8.wrap (Int.fdiv a (2 ^ (min (8:Int).toNat u32.bits))),u8.wrap a]).length<=small) (Cq.ret (.inl ((b++[u8.wrap (Int.fdiv a (2 ^ (min (24:Int).toNat u32.bits))),u8.wrap (Int.fdiv a (2 ^ (min (16:Int).toNat u32.bits))),u8.wrap (Int.fdiv a (2 ^ (min (8:Int).toNat u32.bits))),u8.wrap a]),i64.wrap (c+1)))))else(Cq.ret (.inr b))
def ED(c:(Ŀ Int))(a:Zg)(d:Int):Cq (Ŀ Int):=
 Cq.bind (uo c (u64.wrap ((u64.wrap ((u64.wrap (a.υ.length:Int))*2))+d))) λb=>Cq.next (Zqx a (b,0)) λe=>match e with|f=>Zqy f
def A1(b:(Ŀ Int))(a:Zg):Cq (Ŀ Int):=
 if a.neg=true then(ED b a 1)else(ED b a 0)
def QH(d:(Ŀ Int))(a:Zf):Cq (Ŀ Int):=
 Cq.bind (A1 d a.num) λb=>Cq.bind (A1 b a.den) λc=>Cq.ret c
def Zs4(a:(Ŀ Int)):Cq (Ŀ Int):=
 Cq.ret a
def Zs5(a:Int)(b:(Ŀ Int)):Cq (((Ŀ Int)×Int)⊕(Ŀ Int)):=
 Cq.ret (.inl (b,i64.wrap (a+1)))
def Zs3(d:(Ŀ Za))(e:Int):((Ŀ Int)×Int)->Cq (Ŀ Int):=
 Cq.loop λf=>match f with|(b,a)=>if a<8 then(Cq.Λ d e λg=>Cq.ì (0<=a/\a<8) (Cq.bind (uo b (u64.wrap (Η g.m a))) λc=>Cq.ret (.inl (c,i64.wrap (a+1)))))else(Cq.ret (.inr b))
def Zs2(b:(Ŀ Za)):((Ŀ Int)×Int)->Cq (Ŀ Int):=
 Cq.loop λf=>match f with|(d,a)=>if a<(b.length:Int)then(Cq.Λ b a λg=>Cq.bind (QH d g.c) λe=>Cq.next (Zs3 b a (e,0)) λh=>match h with|i=>Zs5 a i)else(Cq.ret (.inr d))
def FV(c:(Ŀ Int))(a:(Ŀ Za)):Cq (Ŀ Int):=
 Cq.bind (uo c (u64.wrap (a.length:Int))) λb=>Cq.next (Zs2 a (b,0)) λd=>match d with|e=>Zs4 e
def Zqu(a:(Ŀ Int)):Cq (Ŀ Int):=
 Cq.ret a
def Zqt(b:(Ŀ (Ŀ Za))):((Ŀ Int)×Int)->Cq (Ŀ Int):=
 Cq.loop λe=>match e with|(c,a)=>if a<(b.length:Int)then(Cq.Λ b a λf=>Cq.bind (FV c f) λd=>Cq.ret (.inl (d,i64.wrap (a+1))))else(Cq.ret (.inr c))
def FI(c:(Ŀ Int))(a:(Ŀ (Ŀ Za))):Cq (Ŀ Int):=
 Cq.bind (uo c (u64.wrap (a.length:Int))) λb=>Cq.next (Zqt a (b,0)) λd=>match d with|e=>Zqu e
def vt(e:(Ŀ Int))(a:Zc):Cq (Ŀ Int):=
 Cq.bind (AN e a.n) λb=>Cq.bind (FI b a.eqs) λc=>Cq.bind (FI c a.δ) λd=>Cq.ret d
def wX(c d:Zc):Cq Bool:=Cq.bind (vt [] c) λa=>Cq.bind (vt [] d) λb=>Cq.ret (decide (bytesOf a=bytesOf b))
def ZqK(a:(Ŀ (Fin 8->Int))):Cq ((Ŀ (Fin 8->Int))):=
 Cq.ret a
def ZqL(b:Int)(a:(Ŀ (Fin 8->Int))):Cq (((Ŀ (Fin 8->Int))×Int)⊕(((Ŀ (Fin 8->Int))))):=
 Cq.ret (.inl (a,i64.wrap (b+1)))
def ZqM(b:Int)(a:(Ŀ (Fin 8->Int))):Cq (((Ŀ (Fin 8->Int))×Int)⊕(((Ŀ (Fin 8->Int))))):=
 Cq.ret (.inl (a,i64.wrap (b+1)))
def ZqN(a:(Ŀ (Fin 8->Int)))(c:Int)(b:(Fin 8->Int)):Cq (((Ŀ (Fin 8->Int))×Int)⊕(((Ŀ (Fin 8->Int))))):=
 Cq.ì ((a++[b]).length<=small) (Cq.ret (.inl ((a++[b]),i64.wrap (c+1))))
def ZqJ(c:(Ŀ (Fin 8->Int)))(d:Int)(e:Int):(Int×(Fin 8->Int))->Cq (Fin 8->Int):=
 Cq.loop λf=>match f with|(a,b)=>if d<a then(Cq.Λ c e λg=>Cq.ì (0<=i64.wrap (a-1)/\(i64.wrap (a-1))<8) (Cq.ì (0<=a/\a<8) (Cq.ret (.inl (i64.wrap (a-1),ζ b a.toNat (Η g (i64.wrap (a-1))))))))else(Cq.ret (.inr b))
def ZqI(g:Int)(a:(Ŀ (Fin 8->Int)))(d:Int)(e:Int):((Ŀ (Fin 8->Int))×Int)->Cq (((Ŀ (Fin 8->Int)))):=
 Cq.loop λh=>match h with|(b,c)=>if c<g then(Cq.Λ a e λi=>Cq.Λ a e λj=>Cq.ì (0<=c/\c<8) (Cq.ì (0<=d/\d<8) (Cq.next (ZqJ a d e (c,ζ i d.toNat (Η j c))) λk=>match k with|f=>ZqN b c f)))else(Cq.ret (.inr b))
def ZqH(f:Int)(b:(Ŀ (Fin 8->Int)))(e:Int):((Ŀ (Fin 8->Int))×Int)->Cq (((Ŀ (Fin 8->Int)))):=
 Cq.loop λg=>match g with|(a,d)=>if d<(b.length:Int)then(Cq.next (ZqI f b e d (a,e)) λh=>match h with|c=>ZqM d c)else(Cq.ret (.inr a))
def ZqG(d:Int):((Ŀ (Fin 8->Int))×Int)->Cq (((Ŀ (Fin 8->Int)))):=
 Cq.loop λe=>match e with|(a,c)=>if c<d then(Cq.next (ZqH d a c ([],0)) λf=>match f with|b=>ZqL c b)else(Cq.ret (.inr a))
def Fl(b:Int):Cq ((Ŀ (Fin 8->Int))):=
 Cq.next (ZqG b ([ζ (ζ (ζ (ζ (ζ (ζ (ζ (ζ (λ_=>0) 0 0) 1 1) 2 2) 3 3) 4 4) 5 5) 6 6) 7 7],0)) λc=>match c with|a=>ZqK a
def ZsF(b:(Ŀ Int))(a:Int):Cq (Ŀ Int):=
 Cq.ì (0<=(0:Int)/\(0:Int)<=a/\a<=(b.length:Int)) (Cq.ret ((b.take a.toNat).drop (0:Int).toNat))
def ZsE(b:(Ŀ Int)):Int->Cq Int:=
 Cq.loop λc=>match c with|a=>if 0<a then(Cq.Λ b (i64.wrap (a-1)) λd=>if d=0 then(Cq.ret (.inl (i64.wrap (a-1))))else(Cq.ret (.inr a)))else(Cq.ret (.inr a))
def xu(a:(Ŀ Int)):Cq (Ŀ Int):=
 Cq.next (ZsE a (a.length:Int)) λb=>match b with|c=>ZsF a c
def AY(a:Int):Cq (Ŀ Int):=
 Cq.bind (xu [u32.wrap (Int.tmod a 4294967296),u32.wrap (u64.wrap (Int.tdiv a 4294967296))]) λb=>Cq.ret b
def rQ(b:Bool)(c:(Ŀ Int)):Cq Zg:=
 Cq.bind (xu c) λa=>if b=true then(Cq.ret (Zg.mk (decide (0<(a.length:Int))) a))else(Cq.ret (Zg.mk false a))
def uq(a:Int):Cq Zg:=
 if a<0 then(Cq.bind (AY (u64.wrap ((u64.wrap (i64.wrap (0-(i64.wrap (a+1)))))+1))) λb=>Cq.bind (rQ true b) λc=>Cq.ret c)else(Cq.bind (AY (u64.wrap a)) λd=>Cq.bind (rQ false d) λe=>Cq.ret e)
def Bg(a:Zg):Cq Int:=
 if a.neg=true then(Cq.ret (-1))else(Cq.ret (if 1<(a.υ.length:Int)then 1 else(a.υ.length:Int)))
def yT(a:(Ŀ Int))(b:Int):Cq Int:=
 if b<(a.length:Int)then(Cq.Λ a b λc=>Cq.ret (u64.wrap c))else(Cq.ret 0)
def Ko(a:(Ŀ Int)):Cq Int:=
 Cq.bind (yT a 1) λb=>Cq.bind (yT a 0) λc=>Cq.ret (u64.wrap ((u64.wrap (b*4294967296))+c))
def Zpi(a:Int):Cq Int:=
 Cq.ret a
def Zph:(Int×Int)->Cq Int:=
 Cq.loop λc=>match c with|(b,a)=>if 0<a then(Cq.ì (a≠0) (Cq.ret (.inl (a,Int.tmod b a))))else(Cq.ret (.inr b))
def RM(a:Int)(b:Int):Cq Int:=
 Cq.next (Zph (a,b)) λc=>match c with|d=>Zpi d
def ZmC:Cq Int:=
 Cq.ret 0
def ZmB(b:(Ŀ Int))(c:(Ŀ Int)):Int->Cq (Int⊕Unit):=
 Cq.loop λd=>match d with|a=>if 0<=a then(Cq.Λ b a λe=>Cq.Λ c a λf=>if e<f then(Cq.ret (.inr (.inl (-1))))else(Cq.Λ b a λg=>Cq.Λ c a λh=>if h<g then(Cq.ret (.inr (.inl 1)))else(Cq.ret (.inl (i64.wrap (a-1))))))else(Cq.ret (.inr (.inr ())))
def Z6(a:(Ŀ Int))(b:(Ŀ Int)):Cq Int:=
 if(a.length:Int)<(b.length:Int)then(Cq.ret (-1))else(if(b.length:Int)<(a.length:Int)then(Cq.ret 1)else(Cq.next (ZmB a b (i64.wrap ((a.length:Int)-1))) λd=>match d with|.inl c=>Cq.ret c|.inr ()=>ZmC))
def ZnF(a:(Ŀ Int))(b:Int):Cq ((Ŀ Int)×Int):=
 Cq.bind (xu a) λc=>Cq.ret (c,b)
def ZnE(f:(Ŀ Int))(d:Int):((Ŀ Int)×Int×Int)->Cq (((Ŀ Int)×Int)):=
 Cq.loop λg=>match g with|(a,b,c)=>if 0<=c then(Cq.Λ f c λe=>Cq.ì (d≠0) (Cq.Λ a c λh=>Cq.ì (d≠0) (Cq.ret (.inl ((a.set c.toNat (u32.wrap (u64.wrap (Int.tdiv (u64.wrap ((u64.wrap (b*4294967296))+(u64.wrap e))) d)))),Int.tmod (u64.wrap ((u64.wrap (b*4294967296))+(u64.wrap e))) d,i64.wrap (c-1))))))else(Cq.ret (.inr (a,b)))
def QM(a:(Ŀ Int))(d:Int):Cq ((Ŀ Int)×Int):=
 Cq.ì (0<=(a.length:Int)/\(a.length:Int)<=1000000) (Cq.next (ZnE a d ((List.replicate (a.length:Int).toNat 0),0,i64.wrap ((a.length:Int)-1))) λe=>match e with|(b,c)=>ZnF b c)
def Zqc(a:(Ŀ Int)):Cq (Ŀ Int):=
 Cq.bind (xu a) λb=>Cq.ret b
def Zqd(b:(Ŀ Int))(a:Int)(c:(Ŀ Int))(d:Int):Cq (((Ŀ Int)×Int)⊕(Ŀ Int)):=
 Cq.Λ c (i64.wrap (a+(b.length:Int))) λe=>Cq.ret (.inl ((c.set (i64.wrap (a+(b.length:Int))).toNat (u32.wrap d)),i64.wrap (a+1)))
def Zqb(f:(Ŀ Int))(e:(Ŀ Int))(b:Int):((Ŀ Int)×Int×Int)->Cq (((Ŀ Int)×Int)):=
 Cq.loop λj=>match j with|(c,d,a)=>if a<(e.length:Int)then(Cq.Λ f b λg=>Cq.Λ e a λh=>Cq.Λ c (i64.wrap (b+a)) λi=>Cq.Λ c (i64.wrap (b+a)) λk=>Cq.ret (.inl ((c.set (i64.wrap (b+a)).toNat (u32.wrap (Int.tmod (u64.wrap ((u64.wrap ((u64.wrap ((u64.wrap g)*(u64.wrap h)))+(u64.wrap i)))+d)) 4294967296))),u64.wrap (Int.tdiv (u64.wrap ((u64.wrap ((u64.wrap ((u64.wrap g)*(u64.wrap h)))+(u64.wrap i)))+d)) 4294967296),i64.wrap (a+1))))else(Cq.ret (.inr (c,d)))
def Zqa(b:(Ŀ Int))(c:(Ŀ Int)):((Ŀ Int)×Int)->Cq (Ŀ Int):=
 Cq.loop λg=>match g with|(d,a)=>if a<(b.length:Int)then(Cq.next (Zqb b c a (d,0,0)) λh=>match h with|(e,f)=>Zqd c a e f)else(Cq.ret (.inr d))
def S5(a:(Ŀ Int))(b:(Ŀ Int)):Cq (Ŀ Int):=
 Cq.ì (0<=i64.wrap ((a.length:Int)+(b.length:Int))/\(i64.wrap ((a.length:Int)+(b.length:Int)))<=1000000) (Cq.next (Zqa a b ((List.replicate (i64.wrap ((a.length:Int)+(b.length:Int))).toNat 0),0)) λd=>match d with|c=>Zqc c)
def J6(a:(Ŀ Int))(b:(Ŀ Int)):Cq ((Ŀ Int)×(Ŀ Int)):=
 Cq.bind (Z6 a b) λd=>if d<0 then(Cq.ret ([],a))else(if(b.length:Int)=1 then(Cq.Λ b 0 λf=>Cq.bind (QM a (u64.wrap f)) λc=>Cq.bind (AY c.2) λe=>Cq.ret (c.1,e))else Cq.fail)
def Zpg(a:(Ŀ Int)):Cq (Ŀ Int):=
 Cq.ret a
def Qe(c:(Ŀ Int))(b:(Ŀ Int))(a:Bool):Cq (((Ŀ Int)×(Ŀ Int))⊕((Ŀ Int)⊕(Ŀ Int))):=
 if a=true then(Cq.bind (Ko c) λd=>Cq.bind (Ko b) λe=>Cq.bind (RM d e) λf=>Cq.bind (AY f) λg=>Cq.ret (.inr (.inl g)))else(Cq.bind (J6 c b) λh=>Cq.ret (.inl (b,h.2)))
def Zpf:((Ŀ Int)×(Ŀ Int))->Cq ((Ŀ Int)⊕(Ŀ Int)):=
 Cq.loop λc=>match c with|(a,b)=>if 0<(b.length:Int)then(if(a.length:Int)<=2 then(Qe a b (decide ((b.length:Int)<=2)))else(Qe a b false))else(Cq.ret (.inr (.inr a)))
def RL(b:(Ŀ Int))(c:(Ŀ Int)):Cq (Ŀ Int):=
 Cq.next (Zpf (b,c)) λd=>match d with|.inl a=>Cq.ret a|.inr e=>Zpg e
def xz(c:Zg)(d:Zg):Cq Zg:=
 Cq.bind (RL c.υ d.υ) λa=>Cq.bind (rQ false a) λb=>Cq.ret b
def Zpe(d:Zg)(e:Zg)(f:(Ŀ Int))(a:(Ŀ Int)):Cq (Zg×Zg×Int):=
 Cq.bind (rQ (decide (¬d.neg=e.neg)) f) λb=>Cq.bind (rQ false a) λc=>Cq.ret (b,c,0)
def Qd(c:Zg)(d:Zg)(b:(Ŀ Int)×(Ŀ Int))(a:Bool):Cq (Zg×Zg×Int):=
 if a=true then Cq.fail else(Zpe c d b.1 b.2)
def yQ(b:Zg)(c:Zg):Cq (Zg×Zg×Int):=
 if(c.υ.length:Int)=0 then Cq.fail else(Cq.bind (J6 b.υ c.υ) λa=>if b.neg=true then(Qd b c a (decide (0<(a.2.length:Int))))else(Qd b c a false))
def La(b:Zg)(c:Zg):Cq Zg:=
 Cq.bind (yQ b c) λa=>Cq.ret a.1
def Md(a:Zg):Cq Zg:=
 Cq.bind (rQ (!a.neg) a.υ) λb=>Cq.ret b
def Qf(d:Zg)(e:Zg)(a:Zg):Cq Zf:=
 Cq.bind (La d a) λb=>Cq.bind (La e a) λc=>Cq.ret (Zf.mk b c)
def AK(c:Zg)(a:Zg):Cq Zf:=
 Cq.bind (xz c a) λb=>Cq.bind (Bg a) λd=>if d<0 then(Cq.bind (Md b) λe=>Qf c a e)else(Qf c a b)
def Gd(d:Zg)(a:Zg):Cq (Zf×Int):=
 Cq.bind (Bg a) λb=>if b=0 then Cq.fail else(Cq.bind (AK d a) λc=>Cq.ret (c,0))
def oy(b:Zf):Cq Int:=
 Cq.bind (Bg b.num) λa=>Cq.ret a
def Zqg:Cq Bool:=
 Cq.ret true
def Zqf(b:(Fin 8->Int)):Int->Cq (Bool⊕Unit):=
 Cq.loop λc=>match c with|a=>if a<8 then(Cq.ì (0<=a/\a<8) (if(Η b a)<0 then(Cq.ret (.inr (.inl false)))else(Cq.ì (0<=a/\a<8) (if 65535<(Η b a)then Cq.fail else(Cq.ret (.inl (i64.wrap (a+1))))))))else(Cq.ret (.inr (.inr ())))
def FG(b:(Fin 8->Int)):Cq Bool:=
 Cq.next (Zqf b 0) λc=>match c with|.inl a=>Cq.ret a|.inr ()=>Zqg
def ZuP(a:(Fin 8->Int)):Cq ((Fin 8->Int)×Int):=
 Cq.bind (FG a) λb=>if(!b)=true then Cq.fail else(Cq.ret (a,0))
def ZuO(c:(Fin 8->Int)):(Int×(Fin 8->Int))->Cq (Fin 8->Int):=
 Cq.loop λd=>match d with|(a,b)=>if a<8 then(Cq.ì (0<=a/\a<8) (Cq.ì (0<=a/\a<8) (Cq.ì (0<=a/\a<8) (Cq.ret (.inl (i64.wrap (a+1),ζ b a.toNat (i64.wrap ((Η b a)+(Η c a)))))))))else(Cq.ret (.inr b))
def Mf(b:(Fin 8->Int))(c:(Fin 8->Int)):Cq ((Fin 8->Int)×Int):=
 Cq.next (ZuO c (0,b)) λd=>match d with|a=>ZuP a
def rb(a:Zg)(b:Zg):Cq Zg:=
 Cq.bind (S5 a.υ b.υ) λc=>Cq.bind (rQ (decide (¬a.neg=b.neg)) c) λd=>Cq.ret d
def rj(a:Zf)(b:Zf):Cq Zf:=
 Cq.bind (rb a.num b.num) λc=>Cq.bind (rb a.den b.den) λd=>Cq.bind (AK c d) λe=>Cq.ret e
def Zqm(a:(Ŀ Za)):Cq ((Ŀ Za)×Int):=
 Cq.ret (a,0)
def Zql(g:Zf)(h:(Fin 8->Int))(f:(Ŀ Za)):((Ŀ Za)×Int)->Cq (((Ŀ Za)×Int)⊕(Ŀ Za)):=
 Cq.loop λi=>match i with|(a,d)=>if d<(f.length:Int)then(Cq.Λ f d λj=>Cq.bind (Mf h j.m) λb=>if ¬b.2=0 then Cq.fail else(Cq.Λ f d λk=>Cq.bind (rj g k.c) λe=>Cq.ì ((a++[(Za.mk e b.1)]).length<=small) (Cq.ret (.inl ((a++[(Za.mk e b.1)]),i64.wrap (d+1))))))else(Cq.ret (.inr (.inr a)))
def FH(b:Zf)(e:(Fin 8->Int))(f:(Ŀ Za)):Cq ((Ŀ Za)×Int):=
 Cq.bind (oy b) λc=>if c=0 then(Cq.ret ([],0))else(Cq.next (Zql b e f ([],0)) λg=>match g with|.inl d=>Cq.ret d|.inr a=>Zqm a)
def Gc(a:Zf):Cq Zf:=
 Cq.bind (Md a.num) λb=>Cq.ret (Zf.mk b a.den)
def Ju(a:(Ŀ Za))(b:Zf):Cq (Ŀ Za):=
 Cq.bind (FH b (λ_=>0) a) λc=>Cq.ret c.1
def Jv(a:(Ŀ Za))(d:Zg)(e:Zg):Cq (Ŀ Za):=
 Cq.bind (Gd d e) λb=>Cq.Λ a 0 λh=>Cq.bind (oy h.c) λf=>if f<0 then(Cq.bind (Gc b.1) λg=>Ju a g)else(Ju a b.1)
def Zpn(b:(Ŀ Za))(g:Zg):(Int×Zg)->Cq Zg:=
 Cq.loop λi=>match i with|(a,d)=>if a<(b.length:Int)then(Cq.Λ b a λj=>Cq.bind (yQ g j.c.den) λh=>Cq.Λ b a λk=>Cq.bind (rb k.c.num h.1) λe=>Cq.bind (xz d e) λf=>Cq.ret (.inl (i64.wrap (a+1),f)))else(Cq.ret (.inr d))
def Qh(a:(Ŀ Za))(c:Zg)(b:Zg):Cq (Ŀ Za):=
 Cq.next (Zpn a b (0,c)) λe=>match e with|d=>Jv a b d
def Zpo(b:(Ŀ Za)):(Int×Zg)->Cq Zg:=
 Cq.loop λh=>match h with|(a,d)=>if a<(b.length:Int)then(Cq.Λ b a λi=>Cq.Λ b a λj=>Cq.bind (xz d j.c.den) λe=>Cq.bind (yQ i.c.den e) λf=>Cq.bind (rb d f.1) λg=>Cq.ret (.inl (i64.wrap (a+1),g)))else(Cq.ret (.inr d))
def Fa(a:(Ŀ Za)):Cq (Ŀ Za):=
 if(a.length:Int)=0 then(Cq.ret [])else(Cq.bind (uq 1) λb=>Cq.bind (uq 0) λc=>Cq.next (Zpo a (0,b)) λe=>match e with|d=>Qh a c d)
def Zpk(a:Int):Cq Int:=
 Cq.ret a
def Zpj(c:(Fin 8->Int)):(Int×Int)->Cq Int:=
 Cq.loop λd=>match d with|(b,a)=>if a<8 then(Cq.ì (0<=a/\a<8) (Cq.ret (.inl (i64.wrap (b+(Η c a)),i64.wrap (a+1)))))else(Cq.ret (.inr b))
def Kp(a:(Fin 8->Int)):Cq Int:=
 Cq.next (Zpj a (0,0)) λb=>match b with|c=>Zpk c
def Zpm(a:Int):Cq Int:=
 Cq.ret a
def Zpl(d:(Ŀ Za)):(Int×Int)->Cq Int:=
 Cq.loop λe=>match e with|(b,c)=>if c<(d.length:Int)then(Cq.Λ d c λf=>Cq.bind (Kp f.m) λa=>Cq.ret (.inl (if b<a then a else b,i64.wrap (c+1))))else(Cq.ret (.inr b))
def xf(a:(Ŀ Za)):Cq Int:=
 Cq.next (Zpl a ((-1),0)) λb=>match b with|c=>Zpm c
def ZsI:Cq Bool:=
 Cq.ret true
def ZsH(b:Zg)(c:Zg):Int->Cq (Bool⊕Unit):=
 Cq.loop λd=>match d with|a=>if a<(b.υ.length:Int)then(Cq.Λ b.υ a λe=>Cq.Λ c.υ a λf=>if ¬e=f then(Cq.ret (.inr (.inl false)))else(Cq.ret (.inl (i64.wrap (a+1)))))else(Cq.ret (.inr (.inr ())))
def Lx(a:Zg)(b:Zg):Cq Bool:=
 if ¬a.neg=b.neg then(Cq.ret false)else(if ¬(a.υ.length:Int)=(b.υ.length:Int)then(Cq.ret false)else(Cq.next (ZsH a b 0) λd=>match d with|.inl c=>Cq.ret c|.inr ()=>ZsI))
def Bh(a:Zf)(b:Zf):Cq Bool:=
 Cq.bind (Lx a.num b.num) λc=>match c with|false=>(Cq.ret false)|true=>(Cq.bind (Lx a.den b.den) λd=>Cq.ret d)
def EA(a:Za)(b:Za):Cq Bool:=
 if a.m=b.m then(Cq.bind (Bh a.c b.c) λd=>Cq.ret d)else(Cq.ret false)
def ZsZ:Cq Bool:=
 Cq.ret true
def Ri(b:(Ŀ Za))(d:(Ŀ Za)):Int->Cq (Bool⊕Unit):=
 Cq.loop λe=>match e with|a=>if a<(b.length:Int)then(Cq.Λ b a λf=>Cq.Λ d a λg=>Cq.bind (EA f g) λc=>if(!c)=true then(Cq.ret (.inr (.inl false)))else(Cq.ret (.inl (i64.wrap (a+1)))))else(Cq.ret (.inr (.inr ())))
def tE(a:(Ŀ Za))(b:(Ŀ Za)):Cq Bool:=
 if ¬(a.length:Int)=(b.length:Int)then(Cq.ret false)else(Cq.next (Ri a b 0) λd=>match d with|.inl c=>Cq.ret c|.inr ()=>ZsZ)
def ZuN:Cq Int:=
 Cq.ret 0
def ZuM(b:(Fin 8->Int))(c:(Fin 8->Int)):Int->Cq (Int⊕Unit):=
 Cq.loop λd=>match d with|a=>if a<8 then(Cq.ì (0<=a/\a<8) (Cq.ì (0<=a/\a<8) (if(Η b a)<(Η c a)then(Cq.ret (.inr (.inl (-1))))else(Cq.ì (0<=a/\a<8) (Cq.ì (0<=a/\a<8) (if(Η c a)<(Η b a)then(Cq.ret (.inr (.inl 1)))else(Cq.ret (.inl (i64.wrap (a+1))))))))))else(Cq.ret (.inr (.inr ())))
def xA(b:(Fin 8->Int))(c:(Fin 8->Int)):Cq Int:=
 Cq.next (ZuM b c 0) λd=>match d with|.inl a=>Cq.ret a|.inr ()=>ZuN
def Mc(a:Zg)(b:Zg):Cq Int:=
 if a.neg=true then(if(!b.neg)=true then(Cq.ret (-1))else(if a.neg=true then(if a.neg=true then(Cq.bind (Z6 b.υ a.υ) λc=>Cq.ret c)else(Cq.bind (Z6 a.υ b.υ) λd=>Cq.ret d))else(if b.neg=true then(Cq.ret 1)else(if a.neg=true then(Cq.bind (Z6 b.υ a.υ) λe=>Cq.ret e)else(Cq.bind (Z6 a.υ b.υ) λf=>Cq.ret f)))))else(if a.neg=true then(if a.neg=true then(Cq.bind (Z6 b.υ a.υ) λg=>Cq.ret g)else(Cq.bind (Z6 a.υ b.υ) λh=>Cq.ret h))else(if b.neg=true then(Cq.ret 1)else(if a.neg=true then(Cq.bind (Z6 b.υ a.υ) λi=>Cq.ret i)else(Cq.bind (Z6 a.υ b.υ) λj=>Cq.ret j))))
def vD(a:Zf)(b:Zf):Cq Int:=
 Cq.bind (rb a.num b.den) λc=>Cq.bind (rb b.num a.den) λd=>Cq.bind (Mc c d) λe=>Cq.ret e
def Kr(a:(Ŀ Za))(b:(Ŀ Za)):Cq Int:=
 if(a.length:Int)<(b.length:Int)then(Cq.ret (-1))else(if(b.length:Int)<(a.length:Int)then(Cq.ret 1)else(Cq.ret 0))
def RO(b:(Ŀ Za))(d:(Ŀ Za))(a:Int):Cq (Int⊕(Int⊕Unit)):=
 Cq.Λ b a λi=>Cq.Λ d a λj=>Cq.bind (xA i.m j.m) λe=>if ¬e=0 then(Cq.Λ b a λk=>Cq.Λ d a λl=>Cq.bind (xA k.m l.m) λf=>Cq.ret (.inr (.inl f)))else(Cq.Λ b a λn=>Cq.Λ d a λo=>Cq.bind (vD n.c o.c) λg=>if ¬g=0 then(Cq.Λ b a λp=>Cq.Λ d a λq=>Cq.bind (vD p.c q.c) λh=>Cq.ret (.inr (.inl h)))else(Cq.ret (.inl (i64.wrap (a+1)))))
def RN(b:(Ŀ Za))(c:(Ŀ Za)):Int->Cq (Int⊕Unit):=
 Cq.loop λd=>match d with|a=>if a<(b.length:Int)then(if a<(c.length:Int)then(RO b c a)else(Cq.ret (.inr (.inr ()))))else(Cq.ret (.inr (.inr ())))
def Gf(a:(Ŀ Za))(b:(Ŀ Za)):Cq Int:=
 Cq.next (RN a b 0) λd=>match d with|.inl c=>Cq.ret c|.inr ()=>Kr a b
def Zpq(a:(Ŀ (Ŀ Za))):Cq ((Ŀ (Ŀ Za))):=
 Cq.ret a
def tY(a:(Ŀ (Ŀ Za)))(d:Int)(c:(Ŀ Za))(b:Int):Cq (((Ŀ (Ŀ Za))×Int)⊕(((Ŀ (Ŀ Za))))):=
 Cq.ì (0<=b/\b<=(a.length:Int)/\(a.length:Int)<=(a.length:Int)) (Cq.ì (([c]++((a.take (a.length:Int).toNat).drop b.toNat)).length<=small) (Cq.ì (0<=(0:Int)/\(0:Int)<=b/\b<=(a.length:Int)) (Cq.ì ((((a.take b.toNat).drop (0:Int).toNat)++([c]++((a.take (a.length:Int).toNat).drop b.toNat))).length<=small) (Cq.ret (.inl ((((a.take b.toNat).drop (0:Int).toNat)++([c]++((a.take (a.length:Int).toNat).drop b.toNat))),i64.wrap (d+1)))))))
def Jz(e:Bool)(a:(Ŀ (Ŀ Za)))(b:Int)(d:(Ŀ Za))(c:Int):Cq (((Ŀ (Ŀ Za))×Int)⊕(((Ŀ (Ŀ Za))))):=
 if(d.length:Int)=0 then(Cq.ret (.inl (a,i64.wrap (b+1))))else(if e=true then(Cq.bind (xf d) λf=>if f=0 then(Cq.ret (.inl (a,i64.wrap (b+1))))else(if c<(a.length:Int)then(Cq.Λ a c λi=>Cq.bind (tE i d) λg=>if g=true then(Cq.ret (.inl (a,i64.wrap (b+1))))else(tY a b d c))else(tY a b d c)))else(if c<(a.length:Int)then(Cq.Λ a c λj=>Cq.bind (tE j d) λh=>if h=true then(Cq.ret (.inl (a,i64.wrap (b+1))))else(tY a b d c))else(tY a b d c)))
def Jy(b:(Ŀ (Ŀ Za)))(c:(Ŀ Za)):Int->Cq Int:=
 Cq.loop λe=>match e with|a=>if a<(b.length:Int)then(Cq.Λ b a λf=>Cq.bind (Gf f c) λd=>if d<0 then(Cq.ret (.inl (i64.wrap (a+1))))else(Cq.ret (.inr a)))else(Cq.ret (.inr a))
def Zpp(c:(Ŀ (Ŀ Za)))(e:Bool):((Ŀ (Ŀ Za))×Int)->Cq (((Ŀ (Ŀ Za)))):=
 Cq.loop λg=>match g with|(a,b)=>if b<(c.length:Int)then(Cq.Λ c b λh=>Cq.bind (Fa h) λd=>Cq.next (Jy a d 0) λi=>match i with|f=>Jz e a b d f)else(Cq.ret (.inr a))
def Fe(a:(Ŀ (Ŀ Za)))(b:Bool):Cq ((Ŀ (Ŀ Za))):=
 Cq.next (Zpp a b ([],0)) λd=>match d with|c=>Zpq c
def ZX(c:Int):Cq Zf:=
 Cq.bind (uq c) λa=>Cq.bind (uq 1) λb=>Cq.ret (Zf.mk a b)
def Ez(a:Zf):Cq (Ŀ Za):=
 Cq.bind (oy a) λb=>if b=0 then(Cq.ret [])else(Cq.ret [(Za.mk a (λ_=>0))])
def K8(a:Zg):Cq Bool:=
 if(a.υ.length:Int)=0 then(Cq.ret (!a.neg))else(Cq.Λ a.υ (i64.wrap ((a.υ.length:Int)-1)) λb=>Cq.ret (decide (¬b=0)))
def Zqe(a:Zf):Cq Bool:=
 Cq.bind (xz a.num a.den) λb=>Cq.bind (uq 1) λc=>Cq.bind (Mc b c) λd=>Cq.ret (decide (d=0))
def uj(a:Zf):Cq Bool:=
 Cq.bind (K8 a.num) λb=>match b with|false=>(Cq.ret false)|true=>(Cq.bind (K8 a.den) λc=>match c with|false=>(Cq.ret false)|true=>(Cq.bind (Bg a.den) λd=>if d<1 then Cq.fail else(Zqe a)))
def Zqo:Cq Bool:=
 Cq.ret true
def JR(b:(Ŀ Za))(a:Int):Cq (Int⊕(Bool⊕Unit)):=
 if 0<a then(Cq.Λ b (i64.wrap (a-1)) λd=>Cq.Λ b a λe=>Cq.bind (xA d.m e.m) λc=>if c<=0 then Cq.fail else(Cq.ret (.inl (i64.wrap (a+1)))))else(Cq.ret (.inl (i64.wrap (a+1))))
def Zqn(a:(Ŀ Za)):Int->Cq (Bool⊕Unit):=
 Cq.loop λg=>match g with|b=>if b<(a.length:Int)then(Cq.Λ a b λh=>Cq.bind (uj h.c) λd=>match d with|false=>(Cq.ret (.inr (.inl false)))|true=>(Cq.Λ a b λi=>Cq.bind (oy i.c) λe=>if e=0 then(Cq.ret (.inr (.inl false)))else(Cq.Λ a b λj=>Cq.bind (FG j.m) λf=>if(!f)=true then(Cq.ret (.inr (.inl false)))else(JR a b))))else(Cq.ret (.inr (.inr ())))
def AZ(b:(Ŀ Za)):Cq Bool:=
 Cq.next (Zqn b 0) λc=>match c with|.inl a=>Cq.ret a|.inr ()=>Zqo
def ZuL(a:Int):Cq Int:=
 Cq.ret (u8.wrap a)
def ZuK(c:Int):(Int×Int)->Cq Int:=
 Cq.loop λd=>match d with|(a,b)=>if b<c then(Cq.ret (.inl (i64.wrap (2*a),i64.wrap (b+1))))else(Cq.ret (.inr a))
def Me(a:Int):Cq Int:=
 Cq.next (ZuK a (1,0)) λb=>match b with|c=>ZuL c
def ZnK(a:Int):Cq Int:=
 Cq.ret a
def ZnJ(d:(Fin 8->Int)):(Int×Int)->Cq Int:=
 Cq.loop λe=>match e with|(b,a)=>if a<8 then(Cq.ì (0<=a/\a<8) (if 0<(Η d a)then(Cq.bind (Me a) λc=>Cq.ret (.inl (u8.wrap (b+c),i64.wrap (a+1))))else(Cq.ret (.inl (b,i64.wrap (a+1))))))else(Cq.ret (.inr b))
def J7(a:(Fin 8->Int)):Cq Int:=
 Cq.next (ZnJ a (0,0)) λb=>match b with|c=>ZnK c
def Zs1(a:Int):Cq Int:=
 Cq.ret a
def Zs0(c:(Ŀ Za)):(Int×Int)->Cq Int:=
 Cq.loop λe=>match e with|(a,b)=>if b<(c.length:Int)then(Cq.Λ c b λf=>Cq.bind (J7 f.m) λd=>Cq.ret (.inl (u8.wrap (BitVec.ofInt u8.bits a ||| BitVec.ofInt u8.bits d).toNat,i64.wrap (b+1))))else(Cq.ret (.inr a))
def Bj(b:(Ŀ Za)):Cq Int:=
 Cq.next (Zs0 b (0,0)) λc=>match c with|a=>Zs1 a
def yR(a:(Ŀ Za))(b:Int):Cq Bool:=
 Cq.bind (AZ a) λc=>match c with|false=>(Cq.ret false)|true=>(Cq.bind (xf a) λd=>if d<=12 then(Cq.bind (Bj a) λe=>Cq.ì (0<=(u64.wrap b)) (Cq.ret (decide ((i64.wrap e)<(i64.wrap (1*2 ^ (min (u64.wrap b).toNat i64.bits)))))))else(Cq.ret false))
def ZuU:Cq Bool:=
 Cq.ret true
def RS(b:(Ŀ (Ŀ Za)))(d:Int):Int->Cq (Bool⊕Unit):=
 Cq.loop λe=>match e with|a=>if a<(b.length:Int)then(Cq.Λ b a λf=>Cq.bind (yR f d) λc=>if(!c)=true then(Cq.ret (.inr (.inl false)))else(Cq.ret (.inl (i64.wrap (a+1)))))else(Cq.ret (.inr (.inr ())))
def Gj(b:(Ŀ (Ŀ Za)))(c:Int):Cq Bool:=
 Cq.next (RS b c 0) λd=>match d with|.inl a=>Cq.ret a|.inr ()=>ZuU
def Qj(c:Int)(d:(Ŀ (Ŀ Za)))(e:(Ŀ (Ŀ Za))):Cq (Zc×Int):=
 Cq.bind (Fe e false) λa=>Cq.bind (Fe d true) λb=>if 12<(a.length:Int)then(Cq.ret ((Zc.mk 0 [] []),2))else(if 12<(b.length:Int)then(Cq.ret ((Zc.mk 0 [] []),2))else(Cq.ret ((Zc.mk c a b),0)))
def Zpt(c:(Ŀ (Ŀ Za))):((Ŀ (Ŀ Za))×Int)->Cq (((Ŀ (Ŀ Za)))):=
 Cq.loop λf=>match f with|(a,b)=>if b<(c.length:Int)then(Cq.Λ c b λg=>if(g.length:Int)=0 then(Cq.bind (ZX 1) λe=>Cq.bind (Ez e) λd=>Cq.ì ((a++[d]).length<=small) (Cq.ret (.inl ((a++[d]),i64.wrap (b+1)))))else(Cq.ret (.inl (a,i64.wrap (b+1)))))else(Cq.ret (.inr a))
def Qk(c:Int)(a:(Ŀ (Ŀ Za)))(b:(Ŀ (Ŀ Za))):Cq (Zc×Int):=
 Cq.ì (([]++a).length<=small) (Cq.next (Zpt b (([]++a),0)) λe=>match e with|d=>Qj c b d)
def Fg(a:Int)(b:(Ŀ (Ŀ Za)))(c:(Ŀ (Ŀ Za))):Cq (Zc×Int):=
 if a<1 then(Cq.ret ((Zc.mk 0 [] []),1))else(if 4<a then(Cq.ret ((Zc.mk 0 [] []),1))else(Cq.bind (Gj b a) λd=>match d with|false=>(Cq.ret ((Zc.mk 0 [] []),1))|true=>(Cq.bind (Gj c a) λe=>if(!e)=true then(Cq.ret ((Zc.mk 0 [] []),1))else(Qk a b c))))
def ZhV:Cq Bool:=
 Cq.ret true
def ZhU(a:(Fin 8->Int)):(Int×(Fin 8->Bool))->Cq (Bool⊕Unit):=
 Cq.loop λd=>match d with|(b,c)=>if b<8 then(Cq.ì (0<=b/\b<8) (if(Η a b)<0 then(Cq.ret (.inr (.inl false)))else(Cq.ì (0<=b/\b<8) (if 8<=(Η a b)then(Cq.ret (.inr (.inl false)))else(Cq.ì (0<=b/\b<8) (Cq.ì (0<=Η a b/\(Η a b)<8) (if(Η c (Η a b))=true then Cq.fail else(Cq.ì (0<=b/\b<8) (Cq.ì (0<=Η a b/\(Η a b)<8) (Cq.ret (.inl (i64.wrap (b+1),ζ c ((Η a b).toNat) true))))))))))))else(Cq.ret (.inr (.inr ())))
def Jc(a:(Fin 8->Int)):Cq Bool:=
 Cq.next (ZhU a (0,(λ_=>false))) λc=>match c with|.inl b=>Cq.ret b|.inr ()=>ZhV
def Zp7(a:(Ŀ Int)):Cq (Ŀ Int):=
 Cq.bind (xu a) λb=>Cq.ret b
def Zp6(f:(Ŀ Int))(g:(Ŀ Int)):((Ŀ Int)×Int×Int)->Cq (Ŀ Int):=
 Cq.loop λh=>match h with|(b,a,c)=>if c<(i64.wrap ((if(f.length:Int)<(g.length:Int)then(g.length:Int)else(f.length:Int))+1))then(Cq.bind (yT f c) λd=>Cq.bind (yT g c) λe=>Cq.Λ b c λi=>Cq.ret (.inl ((b.set c.toNat (u32.wrap (Int.tmod (u64.wrap ((u64.wrap (d+e))+a)) 4294967296))),u64.wrap (Int.tdiv (u64.wrap ((u64.wrap (d+e))+a)) 4294967296),i64.wrap (c+1))))else(Cq.ret (.inr b))
def S4(a:(Ŀ Int))(b:(Ŀ Int)):Cq (Ŀ Int):=
 Cq.ì (0<=i64.wrap ((if(a.length:Int)<(b.length:Int)then(b.length:Int)else(a.length:Int))+1)/\(i64.wrap ((if(a.length:Int)<(b.length:Int)then(b.length:Int)else(a.length:Int))+1))<=1000000) (Cq.next (Zp6 a b ((List.replicate (i64.wrap ((if(a.length:Int)<(b.length:Int)then(b.length:Int)else(a.length:Int))+1)).toNat 0),0,0)) λd=>match d with|c=>Zp7 c)
def Zp9(a:(Ŀ Int)):Cq (Ŀ Int):=
 Cq.bind (xu a) λb=>Cq.ret b
def Zp8(e:(Ŀ Int))(g:(Ŀ Int)):((Ŀ Int)×Int×Int)->Cq (Ŀ Int):=
 Cq.loop λh=>match h with|(b,a,c)=>if c<(e.length:Int)then(Cq.Λ e c λf=>Cq.bind (yT g c) λd=>Cq.Λ b c λi=>Cq.ret (.inl ((b.set c.toNat (u32.wrap (Int.tmod (u64.wrap ((u64.wrap ((u64.wrap (4294967296+(u64.wrap f)))-d))-a)) 4294967296))),u64.wrap (1-(u64.wrap (Int.tdiv (u64.wrap ((u64.wrap ((u64.wrap (4294967296+(u64.wrap f)))-d))-a)) 4294967296))),i64.wrap (c+1))))else(Cq.ret (.inr b))
def K9(a:(Ŀ Int))(c:(Ŀ Int)):Cq (Ŀ Int):=
 Cq.ì (0<=(a.length:Int)/\(a.length:Int)<=1000000) (Cq.next (Zp8 a c ((List.replicate (a.length:Int).toNat 0),0,0)) λd=>match d with|b=>Zp9 b)
def Uy(a:Zg)(b:Zg):Cq Zg:=
 if a.neg=b.neg then(Cq.bind (S4 a.υ b.υ) λc=>Cq.bind (rQ a.neg c) λd=>Cq.ret d)else(Cq.bind (Z6 a.υ b.υ) λe=>if e<0 then(Cq.bind (K9 b.υ a.υ) λf=>Cq.bind (rQ b.neg f) λg=>Cq.ret g)else(Cq.bind (K9 a.υ b.υ) λh=>Cq.bind (rQ a.neg h) λi=>Cq.ret i))
def vC(a:Zf)(b:Zf):Cq Zf:=
 Cq.bind (rb a.num b.den) λc=>Cq.bind (rb b.num a.den) λd=>Cq.bind (Uy c d) λe=>Cq.bind (rb a.den b.den) λf=>Cq.bind (AK e f) λg=>Cq.ret g
def ZuR(a:(Ŀ Za)):Cq (Ŀ Za):=
 Cq.ret a
def Kq(e:(Ŀ Za))(g:(Ŀ Za))(a:Int)(b:(Ŀ Za))(d:Int):Cq (((Ŀ Za)×Int×Int)⊕(Ŀ Za)):=
 Cq.Λ e a λj=>Cq.Λ g d λk=>Cq.bind (vC j.c k.c) λf=>Cq.bind (oy f) λh=>if ¬h=0 then(Cq.Λ e a λi=>Cq.ì ((b++[(Za.mk f i.m)]).length<=small) (Cq.ret (.inl ((b++[(Za.mk f i.m)]),i64.wrap (a+1),i64.wrap (d+1)))))else(Cq.ret (.inl (b,i64.wrap (a+1),i64.wrap (d+1))))
def AL(f:(Ŀ Za))(c:(Ŀ Za))(a:Int)(b:(Ŀ Za))(d:Int)(e:Bool):Cq (((Ŀ Za)×Int×Int)⊕(Ŀ Za)):=
 if e=true then(Cq.Λ c a λg=>Cq.ì ((b++[g]).length<=small) (Cq.ret (.inl ((b++[g]),d,i64.wrap (a+1)))))else(Kq f c d b a)
def AM(a:(Ŀ Za))(c:(Ŀ Za))(d:Int)(e:(Ŀ Za))(b:Int):Cq (((Ŀ Za)×Int×Int)⊕(Ŀ Za)):=
 if b=(a.length:Int)then(AL a c d e b true)else(Cq.Λ a b λg=>Cq.Λ c d λh=>Cq.bind (xA g.m h.m) λf=>AL a c d e b (decide (f<0)))
def vr(c:(Ŀ Za))(f:(Ŀ Za))(a:(Ŀ Za))(b:Int)(d:Int)(e:Bool):Cq (((Ŀ Za)×Int×Int)⊕(Ŀ Za)):=
 if e=true then(Cq.Λ c b λg=>Cq.ì ((a++[g]).length<=small) (Cq.ret (.inl ((a++[g]),i64.wrap (b+1),d))))else(AM c f d a b)
def xa(a:(Ŀ Za))(b:(Ŀ Za))(e:(Ŀ Za))(c:Int)(d:Int):Cq (((Ŀ Za)×Int×Int)⊕(Ŀ Za)):=
 if d=(b.length:Int)then(vr a b e c d true)else(if c<(a.length:Int)then(Cq.Λ a c λg=>Cq.Λ b d λh=>Cq.bind (xA g.m h.m) λf=>vr a b e c d (decide (0<f)))else(vr a b e c d false))
def ZuQ(a:(Ŀ Za))(b:(Ŀ Za)):((Ŀ Za)×Int×Int)->Cq (Ŀ Za):=
 Cq.loop λf=>match f with|(c,d,e)=>if d<(a.length:Int)then(xa a b c d e)else(if e<(b.length:Int)then(xa a b c d e)else(Cq.ret (.inr c)))
def Bp(a:(Ŀ Za))(b:(Ŀ Za)):Cq (Ŀ Za):=
 Cq.next (ZuQ a b ([],0,0)) λd=>match d with|c=>ZuR c
def ZnT(a:(Ŀ Za)):Cq ((Ŀ Za)×Int):=
 Cq.ret (a,0)
def ZnU(f:(Ŀ Za))(a:(Ŀ Za))(b:Int)(d:(Fin 8->Int)):Cq (((Ŀ Za)×Int)⊕(Ŀ Za)):=
 Cq.Λ f b λg=>Cq.bind (Bp a [(Za.mk g.c d)]) λe=>Cq.ret (.inl (e,i64.wrap (b+1)))
def PU(d:(Ŀ Za))(b:(Fin 8->Int))(e:Int):(Int×(Fin 8->Int))->Cq (Fin 8->Int):=
 Cq.loop λf=>match f with|(a,c)=>if a<8 then(Cq.ì (0<=a/\a<8) (Cq.Λ d e λg=>Cq.ì (0<=a/\a<8) (Cq.ì (0<=Η b a/\(Η b a)<8) (Cq.ret (.inl (i64.wrap (a+1),ζ c ((Η b a).toNat) (Η g.m a)))))))else(Cq.ret (.inr c))
def ZnS(c:(Ŀ Za))(b:(Fin 8->Int)):((Ŀ Za)×Int)->Cq (Ŀ Za):=
 Cq.loop λf=>match f with|(a,d)=>if d<(c.length:Int)then(Cq.next (PU c b d (0,(λ_=>0))) λg=>match g with|e=>ZnU c a d e)else(Cq.ret (.inr a))
def AA(d:(Ŀ Za))(a:(Fin 8->Int)):Cq ((Ŀ Za)×Int):=
 Cq.bind (Jc a) λc=>if(!c)=true then Cq.fail else(Cq.next (ZnS d a ([],0)) λe=>match e with|b=>ZnT b)
def Pv(a:Zc)(b:(Ŀ (Ŀ Za)))(c:(Ŀ (Ŀ Za))):Cq Zc:=
 Cq.bind (Fg a.n b c) λd=>Cq.ret d.1
def ZmJ(c:Zc)(e:(Fin 8->Int)):((Ŀ (Ŀ Za))×Int)->Cq (((Ŀ (Ŀ Za)))):=
 Cq.loop λf=>match f with|(b,a)=>if a<(c.δ.length:Int)then(Cq.Λ c.δ a λg=>Cq.bind (AA g e) λd=>Cq.ì ((b++[d.1]).length<=small) (Cq.ret (.inl ((b++[d.1]),i64.wrap (a+1)))))else(Cq.ret (.inr b))
def Pw(a:Zc)(b:(Fin 8->Int))(c:(Ŀ (Ŀ Za))):Cq Zc:=
 Cq.next (ZmJ a b ([],0)) λe=>match e with|d=>Pv a c d
def ZmK(c:Zc)(e:(Fin 8->Int)):((Ŀ (Ŀ Za))×Int)->Cq (((Ŀ (Ŀ Za)))):=
 Cq.loop λf=>match f with|(a,b)=>if b<(c.eqs.length:Int)then(Cq.Λ c.eqs b λg=>Cq.bind (AA g e) λd=>Cq.ì ((a++[d.1]).length<=small) (Cq.ret (.inl ((a++[d.1]),i64.wrap (b+1)))))else(Cq.ret (.inr a))
def AF(a:Zc)(b:(Fin 8->Int)):Cq Zc:=
 Cq.next (ZmK a b ([],0)) λd=>match d with|c=>Pw a b c
def xg(b:(Ŀ Za))(c:Int)(a:Int):Cq Bool:=
 Cq.bind (AZ b) λd=>match d with|false=>(Cq.ret false)|true=>(Cq.bind (Bj b) λe=>Cq.ì (0<=(u64.wrap c)) (if(i64.wrap e)<(i64.wrap (1*2 ^ (min (u64.wrap c).toNat i64.bits)))then(Cq.bind (xf b) λf=>Cq.ret (decide (f<=a)))else(Cq.ret false)))
def Zps:Cq Bool:=
 Cq.ret true
def Zpr(b:(Ŀ (Ŀ Za)))(g:Int):Int->Cq (Bool⊕Unit):=
 Cq.loop λh=>match h with|a=>if a<(b.length:Int)then(Cq.Λ b a λi=>Cq.bind (xg i g 12) λc=>match c with|false=>(Cq.ret (.inr (.inl false)))|true=>(Cq.Λ b a λj=>if(j.length:Int)=0 then(Cq.ret (.inr (.inl false)))else(Cq.Λ b a λk=>Cq.bind (Fa k) λd=>Cq.Λ b a λl=>Cq.bind (tE d l) λe=>match e with|false=>(Cq.ret (.inr (.inl false)))|true=>(if 0<a then(Cq.Λ b (i64.wrap (a-1)) λm=>Cq.Λ b a λn=>Cq.bind (Gf m n) λf=>if 0<=f then Cq.fail else(Cq.ret (.inl (i64.wrap (a+1)))))else(Cq.ret (.inl (i64.wrap (a+1))))))))else(Cq.ret (.inr (.inr ())))
def Ff(a:(Ŀ (Ŀ Za)))(c:Int):Cq Bool:=
 if 12<(a.length:Int)then Cq.fail else(Cq.next (Zpr a c 0) λd=>match d with|.inl b=>Cq.ret b|.inr ()=>Zps)
def Zqw:Cq Bool:=
 Cq.ret true
def Zqv(b:Zc):Int->Cq (Bool⊕Unit):=
 Cq.loop λd=>match d with|a=>if a<(b.δ.length:Int)then(Cq.Λ b.δ a λe=>Cq.bind (xf e) λc=>if c=0 then Cq.fail else(Cq.ret (.inl (i64.wrap (a+1)))))else(Cq.ret (.inr (.inr ())))
def QI(b:Zc):Cq Bool:=
 Cq.next (Zqv b 0) λc=>match c with|.inl a=>Cq.ret a|.inr ()=>Zqw
def A0(a:Zc):Cq Bool:=
 if a.n<1 then(Cq.ret false)else(if 4<a.n then(Cq.ret false)else(Cq.bind (Ff a.eqs a.n) λb=>match b with|false=>(Cq.ret false)|true=>(Cq.bind (Ff a.δ a.n) λc=>if(!c)=true then(Cq.ret false)else(QI a))))
def Gi(a:Zc):Cq Ĳ:=
 Cq.bind (A0 a) λb=>if(!b)=true then Cq.fail else(Cq.bind (vt [] a) λc=>Cq.ret (bytesOf c))
def ZqF(a:Zc)(b:(Fin 8->Int)):Cq (Zc×(Fin 8->Int)):=
 Cq.ret (a,b)
def ZqE(h:Zc)(a:(Ŀ (Fin 8->Int))):(Int×Zc×(Fin 8->Int))->Cq ((Zc×(Fin 8->Int))):=
 Cq.loop λi=>match i with|(b,c,d)=>if b<(a.length:Int)then(Cq.Λ a b λj=>Cq.bind (AF h j) λe=>Cq.bind (Gi e) λf=>Cq.bind (Gi c) λg=>if(Op.bytesLess f.toList g.toList)=true then(Cq.Λ a b λk=>Cq.ret (.inl (i64.wrap (b+1),e,k)))else(Cq.ret (.inl (i64.wrap (b+1),c,d))))else(Cq.ret (.inr (c,d)))
def Lf(b:Zc):Cq (Zc×(Fin 8->Int)):=
 Cq.bind (Fl b.n) λa=>Cq.Λ a 0 λf=>Cq.bind (AF b f) λc=>Cq.Λ a 0 λg=>Cq.next (ZqE b a (1,c,g)) λh=>match h with|(d,e)=>ZqF d e
def Zqj:Cq Bool:=
 Cq.ret true
def Zqk(b:Int)(a:Int):Cq (Int⊕(Bool⊕Unit)):=
 if a<0 then Cq.fail else(Cq.ret (.inl (i64.wrap (b+1))))
def Zqi(d:(Ŀ (Fin 8->Int)))(b:Int):(Int×Int)->Cq (Bool⊕Int):=
 Cq.loop λe=>match e with|(a,c)=>if c<(d.length:Int)then(Cq.Λ d c λf=>Cq.ì (0<=b/\b<8) (if(Η f b)<(-1000)then(Cq.ret (.inr (.inl false)))else(Cq.Λ d c λg=>Cq.ì (0<=b/\b<8) (if 1000<(Η g b)then Cq.fail else(if a=0 then(Cq.Λ d c λh=>Cq.ì (0<=b/\b<8) (Cq.ret (.inl (Η h b,i64.wrap (c+1)))))else(Cq.ret (.inl (a,i64.wrap (c+1)))))))))else(Cq.ret (.inr (.inr a)))
def Zqh(d:(Ŀ (Fin 8->Int))):Int->Cq (Bool⊕Unit):=
 Cq.loop λe=>match e with|b=>if b<8 then(Cq.next (Zqi d b (0,0)) λf=>match f with|.inl c=>Cq.ret (.inr (.inl c))|.inr a=>Zqk b a)else(Cq.ret (.inr (.inr ())))
def yU(a:(Ŀ (Fin 8->Int))):Cq Bool:=
 if 24<(a.length:Int)then Cq.fail else(Cq.next (Zqh a 0) λc=>match c with|.inl b=>Cq.ret b|.inr ()=>Zqj)
def Zjq:Cq Bool:=
 Cq.ret true
def Zjp(a:(Fin 8->Int)):(Int×(Fin 8->Bool))->Cq (Bool⊕Unit):=
 Cq.loop λd=>match d with|(b,c)=>if b<8 then(Cq.ì (0<=b/\b<8) (if(Η a b)<0 then(Cq.ret (.inr (.inl false)))else(Cq.ì (0<=b/\b<8) (if 7<(Η a b)then(Cq.ret (.inr (.inl false)))else(Cq.ì (0<=b/\b<8) (Cq.ì (0<=Η a b/\(Η a b)<8) (if(Η c (Η a b))=true then Cq.fail else(Cq.ì (0<=b/\b<8) (Cq.ì (0<=Η a b/\(Η a b)<8) (Cq.ret (.inl (i64.wrap (b+1),ζ c ((Η a b).toNat) true))))))))))))else(Cq.ret (.inr (.inr ())))
def Jh(a:(Fin 8->Int)):Cq Bool:=
 Cq.next (Zjp a (0,(λ_=>false))) λc=>match c with|.inl b=>Cq.ret b|.inr ()=>Zjq
def Gb(b:Zf):Cq (Zf×Int):=
 Cq.bind (Gd b.den b.num) λa=>Cq.ret (a.1,a.2)
def Ge(c:Zf)(d:Zf):Cq Zf:=
 Cq.bind (Gc d) λa=>Cq.bind (vC c a) λb=>Cq.ret b
def ZnR(a:(Ŀ Zf)):Cq (Ŀ Zf):=
 Cq.ret a
def ZnQ(c:(Ŀ Zf))(f:Zf):(Int×(Ŀ Zf))->Cq (Ŀ Zf):=
 Cq.loop λg=>match g with|(b,a)=>if b<8 then(Cq.Λ a b λh=>Cq.Λ c b λi=>Cq.bind (rj f i) λd=>Cq.bind (Ge h d) λe=>Cq.Λ a b λj=>Cq.ret (.inl (i64.wrap (b+1),a.set b.toNat e)))else(Cq.ret (.inr a))
def J9(a:(Ŀ Zf))(b:(Ŀ Zf))(d:Int):Cq (Ŀ Zf):=
 Cq.Λ a d λe=>Cq.next (ZnQ b e (0,a)) λf=>match f with|c=>ZnR c
def ZsP(a:(Ŀ (Ŀ Zf))):Cq Int:=
 Cq.ret (a.length:Int)
def ZsQ(a:(Ŀ (Ŀ Zf)))(b:(Ŀ Int))(e:Int)(c:Int)(d:(Ŀ Zf)):Cq (((Ŀ (Ŀ Zf))×(Ŀ Int)×Int)⊕(((Ŀ (Ŀ Zf))))):=
 Cq.ì ((a++[d]).length<=small) (Cq.ì ((b++[c]).length<=small) (Cq.ret (.inl ((a++[d]),(b++[c]),i64.wrap (e+1)))))
def QP(c:Zf×Int):(Int×(Ŀ Zf))->Cq (Ŀ Zf):=
 Cq.loop λe=>match e with|(a,b)=>if a<8 then(Cq.Λ b a λf=>Cq.bind (rj f c.1) λd=>Cq.Λ b a λg=>Cq.ret (.inl (i64.wrap (a+1),b.set a.toNat d)))else(Cq.ret (.inr b))
def ZsR(b:(Ŀ (Ŀ Zf)))(c:(Ŀ Int))(d:Int)(e:(Ŀ Zf))(a:Int):Cq (((Ŀ (Ŀ Zf))×(Ŀ Int)×Int)⊕(((Ŀ (Ŀ Zf))))):=
 if a=8 then(Cq.ret (.inl (b,c,i64.wrap (d+1))))else(Cq.Λ e a λh=>Cq.bind (Gb h) λf=>Cq.next (QP f (0,e)) λi=>match i with|g=>ZsQ b c d a g)
def QQ(b:(Ŀ Zf)):Int->Cq Int:=
 Cq.loop λd=>match d with|a=>if a<8 then(Cq.Λ b a λe=>Cq.bind (oy e) λc=>if c=0 then(Cq.ret (.inl (i64.wrap (a+1))))else(Cq.ret (.inr a)))else(Cq.ret (.inr a))
def ZsS(b:(Ŀ (Ŀ Zf)))(c:(Ŀ Int))(d:Int)(a:(Ŀ Zf)):Cq (((Ŀ (Ŀ Zf))×(Ŀ Int)×Int)⊕(((Ŀ (Ŀ Zf))))):=
 Cq.next (QQ a 0) λf=>match f with|e=>ZsR b c d a e
def QR(b:(Ŀ (Ŀ Zf)))(d:(Ŀ Int)):(Int×(Ŀ Zf))->Cq (Ŀ Zf):=
 Cq.loop λf=>match f with|(a,c)=>if a<(b.length:Int)then(Cq.Λ b a λg=>Cq.Λ d a λh=>Cq.bind (J9 c g h) λe=>Cq.ret (.inl (i64.wrap (a+1),e)))else(Cq.ret (.inr c))
def ZsT(a:(Ŀ (Ŀ Zf)))(b:(Ŀ Int))(c:Int)(d:(Ŀ Zf)):Cq (((Ŀ (Ŀ Zf))×(Ŀ Int)×Int)⊕(((Ŀ (Ŀ Zf))))):=
 Cq.next (QR a b (0,d)) λf=>match f with|e=>ZsS a b c e
def QG(c:(Ŀ (Fin 8->Int)))(d:Int):(Int×(Ŀ Zf))->Cq (Ŀ Zf):=
 Cq.loop λf=>match f with|(a,b)=>if a<8 then(Cq.Λ c d λg=>Cq.ì (0<=a/\a<8) (Cq.bind (ZX (Η g a)) λe=>Cq.Λ b a λh=>Cq.ret (.inl (i64.wrap (a+1),b.set a.toNat e))))else(Cq.ret (.inr b))
def ZsO(b:(Ŀ (Fin 8->Int))):((Ŀ (Ŀ Zf))×(Ŀ Int)×Int)->Cq (((Ŀ (Ŀ Zf)))):=
 Cq.loop λf=>match f with|(c,d,a)=>if a<(b.length:Int)then(Cq.next (QG b a (0,(List.replicate 8 (Zf.mk (Zg.mk false []) (Zg.mk false []))))) λg=>match g with|e=>ZsT c d a e)else(Cq.ret (.inr c))
def FT(a:(Ŀ (Fin 8->Int))):Cq Int:=
 Cq.next (ZsO a ([],[],0)) λc=>match c with|b=>ZsP b
def FU(a:Int)(b:Int):Cq (Fin 8->Int):=
 Cq.ì (0<=a/\a<8) (Cq.ret (ζ (λ_=>0) a.toNat b))
def ZsL(a:(Ŀ (Fin 8->Int))):Cq ((Ŀ (Fin 8->Int))×Int):=
 Cq.ret (a,0)
def ZsK:((Ŀ (Fin 8->Int))×Int)->Cq (((Ŀ (Fin 8->Int)))):=
 Cq.loop λd=>match d with|(a,c)=>if c<8 then(Cq.bind (FU c 1) λb=>Cq.ì ((a++[b]).length<=small) (Cq.ret (.inl ((a++[b]),i64.wrap (c+1)))))else(Cq.ret (.inr a))
def Ly(a:(Ŀ (Fin 8->Int))):Cq ((Ŀ (Fin 8->Int))×Int):=
 Cq.bind (yU a) λc=>if(!c)=true then Cq.fail else(Cq.ì (([]++a).length<=small) (Cq.bind (FT a) λd=>if d=8 then(Cq.ret (([]++a),0))else(if 16<(a.length:Int)then Cq.fail else(Cq.next (ZsK (([]++a),0)) λe=>match e with|b=>ZsL b))))
def ZnM(a:(Ŀ (Fin 8->Int))):Cq ((Ŀ (Fin 8->Int))×Int):=
 Cq.ret (a,0)
def ZnN(a:(Ŀ (Fin 8->Int)))(c:Int)(b:(Fin 8->Int)):Cq (((Ŀ (Fin 8->Int))×Int)⊕(((Ŀ (Fin 8->Int))))):=
 Cq.ì ((a++[b]).length<=small) (Cq.ret (.inl ((a++[b]),i64.wrap (c+1))))
def PT(b:(Fin 8->Int))(d:(Ŀ (Fin 8->Int))×Int)(e:Int):(Int×(Fin 8->Int))->Cq (Fin 8->Int):=
 Cq.loop λf=>match f with|(a,c)=>if a<8 then(Cq.ì (0<=a/\a<8) (Cq.Λ d.1 e λg=>Cq.ì (0<=a/\a<8) (Cq.ì (0<=Η b a/\(Η b a)<8) (Cq.ret (.inl (i64.wrap (a+1),ζ c ((Η b a).toNat) (Η g a)))))))else(Cq.ret (.inr c))
def ZnL(b:(Fin 8->Int))(c:(Ŀ (Fin 8->Int))×Int):((Ŀ (Fin 8->Int))×Int)->Cq (((Ŀ (Fin 8->Int)))):=
 Cq.loop λf=>match f with|(a,d)=>if d<(c.1.length:Int)then(Cq.next (PT b c d (0,(λ_=>0))) λg=>match g with|e=>ZnN a d e)else(Cq.ret (.inr a))
def J8(d:(Ŀ (Fin 8->Int)))(a:(Fin 8->Int)):Cq ((Ŀ (Fin 8->Int))×Int):=
 Cq.bind (yU d) λe=>if(!e)=true then Cq.fail else(Cq.bind (Jh a) λf=>if(!f)=true then Cq.fail else(Cq.bind (Ly d) λb=>if ¬b.2=0 then Cq.fail else(Cq.next (ZnL a b ([],0)) λg=>match g with|c=>ZnM c)))
def Eu(a:Int):Cq Bool:=
 if a=1 then(Cq.ret true)else(if a=7 then(Cq.ret true)else(Cq.ret (decide (a=9))))
def JM(a:Zb):Cq Bool:=
 if(a.p.length:Int)=0 then(if(a.o.length:Int)=0 then(Cq.ret true)else(Cq.ret (decide (a.kind=3))))else(Cq.bind (Eu a.kind) λb=>match b with|false=>(Cq.ret false)|true=>(if(a.o.length:Int)=0 then(Cq.ret true)else(Cq.ret (decide (a.kind=3)))))
def KY(b:Zc)(a:Zb):Cq Bool:=
 if a.kind<1 then(Cq.ret false)else(if 10<a.kind then(Cq.ret false)else(Cq.bind (AZ a.p) λc=>match c with|false=>(Cq.ret false)|true=>(Cq.bind (xf a.p) λd=>if 12<d then(Cq.ret false)else(Cq.bind (Bj a.p) λe=>Cq.ì (0<=(u64.wrap b.n)) (if(i64.wrap (1*2 ^ (min (u64.wrap b.n).toNat i64.bits)))<=(i64.wrap e)then(Cq.ret false)else(Cq.bind (yU a.o) λf=>if(!f)=true then(Cq.ret false)else(JM a)))))))
def Qx(a:ZE):Cq ZE:=
 if ¬a.e=0 then Cq.fail else(Cq.ret a)
def ZqY(e:Zc)(b:Zb):Cq ZE:=
 Cq.bind (Lf e) λa=>Cq.bind (AA b.p a.2) λc=>if b.kind=3 then(Cq.bind (J8 b.o a.2) λd=>Qx (ZE.mk a.1 (Zb.mk b.kind c.1 d.1) d.2))else(Qx (ZE.mk a.1 (Zb.mk b.kind c.1 []) 0))
def A3(a:Zc)(b:Zb):Cq ZE:=
 Cq.bind (A0 a) λc=>match c with|false=>(Cq.ret (ZE.mk (Zc.mk 0 [] []) (Zb.mk 0 [] []) 1))|true=>(Cq.bind (KY a b) λd=>if(!d)=true then(Cq.ret (ZE.mk (Zc.mk 0 [] []) (Zb.mk 0 [] []) 1))else(ZqY a b))
def JJ(b:Zb)(a:Bool):Cq (Ŀ Zb):=
 if a=true then(Cq.ret [(Zb.mk 5 [] [])])else(if b.kind=7 then(Cq.ret [(Zb.mk 6 [] [])])else(Cq.ret []))
def JK(a:Zb)(b:Bool):Cq (Ŀ Zb):=
 if b=true then(Cq.ret [(Zb.mk 4 [] [])])else(if a.kind=6 then(JJ a (decide (a.kind=6)))else(JJ a (decide (a.kind=10))))
def FM(a:Zb):Cq (Ŀ Zb):=
 if a.kind=5 then(JK a (decide (a.kind=5)))else(JK a (decide (a.kind=8)))
def Zqr(a:(Ŀ Int)):Cq (Ŀ Int):=
 Cq.ret a
def Zqs(a:Int)(b:(Ŀ Int)):Cq (((Ŀ Int)×Int)⊕(Ŀ Int)):=
 Cq.ret (.inl (b,i64.wrap (a+1)))
def Zqq(d:(Ŀ (Fin 8->Int)))(e:Int):((Ŀ Int)×Int)->Cq (Ŀ Int):=
 Cq.loop λf=>match f with|(b,a)=>if a<8 then(Cq.Λ d e λg=>Cq.ì (0<=a/\a<8) (Cq.bind (AN b (Η g a)) λc=>Cq.ret (.inl (c,i64.wrap (a+1)))))else(Cq.ret (.inr b))
def Zqp(b:(Ŀ (Fin 8->Int))):((Ŀ Int)×Int)->Cq (Ŀ Int):=
 Cq.loop λd=>match d with|(c,a)=>if a<(b.length:Int)then(Cq.next (Zqq b a (c,0)) λe=>match e with|f=>Zqs a f)else(Cq.ret (.inr c))
def Ld(c:(Ŀ Int))(a:(Ŀ (Fin 8->Int))):Cq (Ŀ Int):=
 Cq.bind (uo c (u64.wrap (a.length:Int))) λb=>Cq.next (Zqp a (b,0)) λd=>match d with|e=>Zqr e
def Gh(a:Zb):Cq Ĳ:=
 Cq.bind (AN [] a.kind) λb=>Cq.bind (FV b a.p) λc=>Cq.bind (Ld c a.o) λd=>Cq.ret (bytesOf d)
def D8(c:Zb)(d:Zb):Cq Bool:=
 Cq.bind (Gh c) λa=>Cq.bind (Gh d) λb=>Cq.ret (decide (a=b))
def ZvV:Cq Int:=
 Cq.ret (-1)
def Fp(b:Zd)(e:Zc)(f:Zb):Int->Cq (Int⊕Unit):=
 Cq.loop λg=>match g with|a=>if a<(b.t.length:Int)then(Cq.Λ b.t a λh=>Cq.bind (wX h.k e) λc=>match c with|false=>(Cq.ret (.inl (i64.wrap (a+1))))|true=>(Cq.Λ b.t a λi=>Cq.bind (D8 i.q f) λd=>if d=true then(Cq.ret (.inr (.inl a)))else(Cq.ret (.inl (i64.wrap (a+1))))))else(Cq.ret (.inr (.inr ())))
def Mo(b:Zd)(c:Zc)(d:Zb):Cq Int:=
 Cq.next (Fp b c d 0) λe=>match e with|.inl a=>Cq.ret a|.inr ()=>ZvV
def Qw(b:ZE)(a:Zd):Cq Zv:=
 Cq.bind (Mo a b.k b.q) λc=>if 0<=c then(Cq.Λ a.t c λd=>Cq.ret (Zv.mk a d.id 0))else(if 100<=(a.t.length:Int)then(Cq.ret (Zv.mk (Zd.mk [] 0) 0 2))else(if 1000000<=a.next then Cq.fail else(Cq.ì ((([]:Ŀ Ze)++a.t).length<=small) (Cq.ì (((([]:Ŀ Ze)++a.t)++[(Ze.mk a.next b.k b.q 0 0 (-1) false)]).length<=small) (Cq.ret (Zv.mk (Zd.mk ((([]:Ŀ Ze)++a.t)++[(Ze.mk a.next b.k b.q 0 0 (-1) false)]) (i64.wrap (a.next+1))) a.next 0))))))
def ZqW(e:Zd->Zc->Zb->Cq Zv)(h:ZE)(c:(Ŀ Zb)):(Int×Zd×Zv)->Cq (Zv⊕(Zd×Zv)):=
 Cq.loop λi=>match i with|(a,d,f)=>if a<(c.length:Int)then(Cq.Λ c a λj=>Cq.bind (e d h.k j) λg=>if ¬g.e=0 then Cq.fail else(Cq.ret (.inl (i64.wrap (a+1),g.b,f))))else(Cq.ret (.inr (.inr (d,f))))
def Kh(e:Zd->Zc->Zb->Cq Zv)(b:Zd)(c:Zc)(d:Zb):Cq Zv:=
 Cq.bind (A3 c d) λa=>if ¬a.e=0 then(Cq.ret (Zv.mk (Zd.mk [] 0) 0 a.e))else(Cq.bind (FM a.q) λf=>Cq.next (ZqW e a f (0,b,(Zv.mk (Zd.mk [] 0) 0 0))) λi=>match i with|.inl g=>Cq.ret g|.inr (h,j)=>Qw a h)
def A2:Nat->Zd->Zc->Zb->Cq Zv
 |0,_,_,_=>Cq.fail
 |n+1,a,b,c=>Kh (A2 n) a b c
def Mg(a:Int):Cq ((Ŀ Za)×Int):=
 if a<0 then(Cq.ret ([],1))else(if 8<=a then Cq.fail else(Cq.ì (0<=a/\a<8) (Cq.bind (ZX 1) λb=>Cq.ret ([(Za.mk b (ζ (λ_=>0) a.toNat 1))],0))))
def F0:Cq Zd:=
 Cq.ret (Zd.mk [] 1)
def Bc(a:Int):Cq Zb:=
 Cq.ret (Zb.mk a [] [])
def Zoa(c:(Ŀ Int))(b:(Ŀ Int))(a:Int):Cq (Ŀ Int):=
 Cq.Λ b (c.length:Int) λe=>Cq.bind (ZY (b.set (c.length:Int).toNat (u32.wrap a))) λd=>Cq.ret d
def PX(b:(Ŀ Int))(a:Int)(c:Int):Cq (((Ŀ Int)×Int×Int)⊕(((Ŀ Int)×Int))):=
 Cq.Λ b a λd=>Cq.ret (.inl ((b.set a.toNat (u32.wrap c)),Int.fdiv c (2 ^ (min (32:Int).toNat u64.bits)),i64.wrap (a+1)))
def Zn9(d:(Ŀ Int))(e:(Ŀ Int)):((Ŀ Int)×Int×Int)->Cq (((Ŀ Int)×Int)):=
 Cq.loop λg=>match g with|(c,b,a)=>if a<(d.length:Int)then(Cq.Λ d a λf=>if a<(e.length:Int)then(Cq.Λ e a λh=>PX c a (u64.wrap ((u64.wrap ((u64.wrap f)+b))+(u64.wrap h))))else(PX c a (u64.wrap ((u64.wrap f)+b))))else(Cq.ret (.inr (c,b)))
def JE(a:(Ŀ Int))(d:(Ŀ Int)):Cq (Ŀ Int):=
 Cq.ì (0<=i64.wrap ((a.length:Int)+1)/\(i64.wrap ((a.length:Int)+1))<=1000000) (Cq.next (Zn9 a d ((List.replicate (i64.wrap ((a.length:Int)+1)).toNat 0),0,0)) λe=>match e with|(c,b)=>Zoa a c b)
def RE(a:(Ŀ Int))(b:(Ŀ Int)):Cq (Ŀ Int):=
 if(a.length:Int)<(b.length:Int)then(JE b a)else(JE a b)
def Zhv(a:(Ŀ Int)):Cq (Ŀ Int):=
 Cq.bind (ZY a) λb=>Cq.ret b
def Pn(b:(Ŀ Int))(a:Int)(c:Int):Cq (((Ŀ Int)×Int×Int)⊕(Ŀ Int)):=
 Cq.Λ b a λd=>Cq.ret (.inl ((b.set a.toNat (u32.wrap c)),Int.fdiv c (2 ^ (min (63:Int).toNat u64.bits)),i64.wrap (a+1)))
def Zhu(d:(Ŀ Int))(e:(Ŀ Int)):((Ŀ Int)×Int×Int)->Cq (Ŀ Int):=
 Cq.loop λg=>match g with|(c,b,a)=>if a<(d.length:Int)then(Cq.Λ d a λf=>if a<(e.length:Int)then(Cq.Λ e a λh=>Pn c a (u64.wrap ((u64.wrap ((u64.wrap f)-b))-(u64.wrap h))))else(Pn c a (u64.wrap ((u64.wrap f)-b))))else(Cq.ret (.inr c))
def Jf(a:(Ŀ Int))(c:(Ŀ Int)):Cq (Ŀ Int):=
 Cq.ì (0<=(a.length:Int)/\(a.length:Int)<=1000000) (Cq.next (Zhu a c ((List.replicate (a.length:Int).toNat 0),0,0)) λd=>match d with|b=>Zhv b)
def Zog:Cq Bool:=
 Cq.ret true
def Zoh(a:Int)(b:(Fin 8->Bool)):Cq ((Int×(Fin 8->Bool))⊕(Bool⊕Unit)):=
 Cq.ret (.inl (i64.wrap (a+1),b))
def El(c:(Fin 8->Int))(a:Int)(b:(Fin 8->Bool)):Cq ((Int×(Fin 8->Bool))⊕(Bool⊕(Fin 8->Bool))):=
 Cq.ì (0<=a/\a<8) (if(Η b a)=true then(Cq.ì (0<=a/\a<8) (Cq.ret (.inl (i64.wrap (a+1),ζ b a.toNat true))))else(Cq.ì (0<=a/\a<8) (Cq.ret (.inl (i64.wrap (a+1),ζ b a.toNat (decide (¬(Η c a)=0)))))))
def P0(c:(Fin 8->Int)):(Int×(Fin 8->Bool))->Cq (Bool⊕(Fin 8->Bool)):=
 Cq.loop λd=>match d with|(a,b)=>if a<8 then(Cq.ì (0<=a/\a<8) (if(Η c a)<(-1000)then(Cq.ret (.inr (.inl false)))else(if 1000<(Η c a)then(Cq.ret (.inr (.inl false)))else(if(Η c a)<0 then(Cq.ì (0<=a/\a<8) (if(!(Η b a))=true then Cq.fail else(El c a b)))else(El c a b)))))else(Cq.ret (.inr (.inr b)))
def Zof(b:(Ŀ (Fin 8->Int))):(Int×(Fin 8->Bool))->Cq (Bool⊕Unit):=
 Cq.loop λf=>match f with|(a,c)=>if a<(b.length:Int)then(Cq.Λ b a λg=>Cq.next (P0 g (0,c)) λh=>match h with|.inl d=>Cq.ret (.inr (.inl d))|.inr e=>Zoh a e)else(Cq.ret (.inr (.inr ())))
def yE(a:(Ŀ (Fin 8->Int))):Cq Bool:=
 if 24<(a.length:Int)then Cq.fail else(Cq.next (Zof a (0,(λ_=>false))) λc=>match c with|.inl b=>Cq.ret b|.inr ()=>Zog)
def Ei(a:Zb):Cq Bool:=
 if a.kind=1 then(if a.kind=1 then(Cq.ret true)else(Cq.ret (decide ((a.p.length:Int)=0))))else(if a.kind=7 then(if a.kind=7 then(Cq.ret true)else(Cq.ret (decide ((a.p.length:Int)=0))))else(if a.kind=9 then(Cq.ret true)else(Cq.ret (decide ((a.p.length:Int)=0)))))
def J4(a:Zb):Cq Bool:=
 Cq.bind (yE a.o) λb=>match b with|false=>(Cq.ret false)|true=>(if 0<(a.o.length:Int)then(if ¬a.kind=3 then(Cq.ret false)else(Ei a))else(Ei a))
def P9(b:Zc)(a:Zb):Cq Bool:=
 Cq.bind (Am a.p) λc=>match c with|false=>(Cq.ret false)|true=>(Cq.bind (wY a.p) λd=>if 12<d then(Cq.ret false)else(Cq.bind (As a.p) λe=>Cq.ì (0<=b.n) (if ¬(Int.fdiv e (2 ^ (min (b.n).toNat u8.bits)))=0 then(Cq.ret false)else(J4 a))))
def E6(b:Zc)(a:Zb):Cq Bool:=
 if a.kind<1 then(Cq.ret false)else(if 10<a.kind then(Cq.ret false)else(P9 b a))
def Pj(a:(Ŀ (Fin 8->Int))):Cq ((Ŀ (Fin 8->Int))):=
 Cq.pZ a (Cq.ret []) (Cq.ì (([]++a).length<=small) (Cq.ret ([]++a)))
def JZ(a:(Ŀ Zf))(b:Int):Cq Bool:=
 Cq.Λ a b λd=>Cq.bind (ZH d) λc=>Cq.ret (decide (¬c=0))
def QX(a:Zf):Cq (Zf×Int):=
 Cq.bind (vg a.num) λb=>if b=0 then Cq.fail else(if b=(-1)then(Cq.bind (yD a.den) λc=>Cq.bind (yD a.num) λd=>Cq.ret ((Zf.mk c d),0))else(Cq.ret ((Zf.mk a.den a.num),0)))
def Ev(c:Zf)(d:Zf):Cq (Zf×Int):=
 Cq.bind (QX d) λa=>if ¬a.2=0 then Cq.fail else(Cq.bind (Z9 c a.1) λb=>Cq.ret (b,0))
def QY(a:Zf):Cq Zf:=
 Cq.bind (yD a.num) λb=>Cq.ret (Zf.mk b a.den)
def RC(a:Zg)(b:Zg):Cq Zg:=
 if a.neg=b.neg then(Cq.bind (RE a.υ b.υ) λc=>Cq.bind (ZS a.neg c) λd=>Cq.ret d)else(Cq.bind (Ar a.υ b.υ) λe=>if 0<=e then(Cq.bind (Jf a.υ b.υ) λf=>Cq.bind (ZS a.neg f) λg=>Cq.ret g)else(Cq.bind (Jf b.υ a.υ) λh=>Cq.bind (ZS b.neg h) λi=>Cq.ret i))
def QW(a:Zf)(b:Zf):Cq Zf:=
 Cq.bind (vl [a.num,b.den]) λc=>Cq.bind (vl [b.num,a.den]) λd=>Cq.bind (RC c d) λe=>Cq.bind (vl [a.den,b.den]) λf=>Cq.bind (Au e f) λg=>Cq.ret g
def Ex(c:Zf)(d:Zf):Cq Zf:=
 Cq.bind (QY d) λa=>Cq.bind (QW c a) λb=>Cq.ret b
def ZaK:Cq Int:=
 Cq.ret (-1)
def ZaJ(c:(Ŀ (Ŀ Zf)))(b:Int):Int->Cq (Int⊕Unit):=
 Cq.loop λe=>match e with|a=>if a<(c.length:Int)then(Cq.Λ c a λf=>Cq.bind (JZ f b) λd=>if d=true then(Cq.ret (.inr (.inl a)))else(Cq.ret (.inl (i64.wrap (a+1)))))else(Cq.ret (.inr (.inr ())))
def ZO(c:(Ŀ (Ŀ Zf)))(a:Int):Cq Int:=
 Cq.next (ZaJ c a 0) λd=>match d with|.inl b=>Cq.ret b|.inr ()=>ZaK
def ZpL(a:Int):Cq Int:=
 Cq.ret a
def ZpM(b:Int)(a:Int)(c:(Ŀ (Ŀ Zf))):Cq (((Ŀ (Ŀ Zf))×Int×Int)⊕Int):=
 Cq.ret (.inl (c,i64.wrap (b+1),i64.wrap (a+1)))
def ZpN(a:Int)(b:(Ŀ (Ŀ Zf))):Cq (((Ŀ (Ŀ Zf))×Int)⊕(((Ŀ (Ŀ Zf))))):=
 Cq.ret (.inl (b,i64.wrap (a+1)))
def P1(e:Int)(c:Int)(f:Zf×Int):((Ŀ (Ŀ Zf))×Int)->Cq (((Ŀ (Ŀ Zf)))):=
 Cq.loop λl=>match l with|(b,a)=>if a<8 then(Cq.Λ b c λm=>Cq.Λ m a λg=>Cq.Λ b e λh=>Cq.Λ h a λi=>Cq.bind (Z9 f.1 i) λj=>Cq.bind (Ex g j) λk=>Cq.Λ b c λd=>Cq.Λ d a λn=>Cq.ret (.inl ((b.set c.toNat (d.set a.toNat k)),i64.wrap (a+1))))else(Cq.ret (.inr b))
def Qr(d:Int)(c:Int):((Ŀ (Ŀ Zf))×Int)->Cq (((Ŀ (Ŀ Zf)))):=
 Cq.loop λg=>match g with|(b,a)=>if a<(b.length:Int)then(Cq.Λ b a λh=>Cq.Λ h c λi=>Cq.Λ b d λj=>Cq.Λ j c λk=>Cq.bind (Ev i k) λf=>Cq.next (P1 d a f (b,c)) λl=>match l with|e=>ZpN a e)else(Cq.ret (.inr b))
def ZpK:((Ŀ (Ŀ Zf))×Int×Int)->Cq Int:=
 Cq.loop λg=>match g with|(b,a,c)=>if c<8 then(Cq.ì (0<=a/\a<=(b.length:Int)) (Cq.bind (ZO (b.drop a.toNat) c) λd=>if d<0 then(Cq.ret (.inl (b,a,i64.wrap (c+1))))else(Cq.Λ b (i64.wrap (a+d)) λf=>Cq.Λ b a λh=>Cq.Λ b a λj=>Cq.Λ (b.set a.toNat f) (i64.wrap (a+d)) λk=>Cq.next (Qr a c (((b.set a.toNat f).set (i64.wrap (a+d)).toNat h),i64.wrap (a+1))) λi=>match i with|e=>ZpM a c e)))else(Cq.ret (.inr a))
def ZpO(a:(Ŀ (Ŀ Zf))):Cq Int:=
 Cq.next (ZpK (a,0,0)) λc=>match c with|b=>ZpL b
def ZpP(a:Int)(b:(Ŀ (Ŀ Zf))):Cq (((Ŀ (Ŀ Zf))×Int)⊕(((Ŀ (Ŀ Zf))))):=
 Cq.ret (.inl (b,i64.wrap (a+1)))
def PM(c:Int)(e:(Fin 8->Int)):((Ŀ (Ŀ Zf))×Int)->Cq (((Ŀ (Ŀ Zf)))):=
 Cq.loop λg=>match g with|(b,a)=>if a<8 then(Cq.ì (0<=a/\a<8) (Cq.bind (wU (Η e a)) λf=>Cq.Λ b c λd=>Cq.Λ d a λh=>Cq.ret (.inl ((b.set c.toNat (d.set a.toNat f)),i64.wrap (a+1)))))else(Cq.ret (.inr b))
def P2(b:(Ŀ (Fin 8->Int))):((Ŀ (Ŀ Zf))×Int)->Cq (((Ŀ (Ŀ Zf)))):=
 Cq.loop λf=>match f with|(c,a)=>if a<(b.length:Int)then(Cq.Λ b a λe=>Cq.next (PM a e (c,0)) λg=>match g with|d=>ZpP a d)else(Cq.ret (.inr c))
def E3(a:(Ŀ (Fin 8->Int))):Cq Int:=
 Cq.ì (0<=(a.length:Int)/\(a.length:Int)<=1000000) (Cq.next (P2 a ((List.replicate (a.length:Int).toNat (List.replicate 8 (Zf.mk (Zg.mk false []) (Zg.mk false [])))),0)) λc=>match c with|b=>ZpO b)
def ZpJ(a:(Fin 8->Int)):Cq (Fin 8->Int):=
 Cq.ret a
def ZpI(b:Int):(Int×(Fin 8->Int))->Cq (Fin 8->Int):=
 Cq.loop λd=>match d with|(a,c)=>if a<8 then(Cq.ì (0<=a) (Cq.ì (0<=a/\a<8) (Cq.ret (.inl (i64.wrap (a+1),ζ c a.toNat (i64.wrap (u8.wrap (BitVec.ofInt u8.bits (Int.fdiv b (2 ^ (min (a).toNat u8.bits))) &&& BitVec.ofInt u8.bits 1).toNat)))))))else(Cq.ret (.inr c))
def KQ(a:Int):Cq (Fin 8->Int):=
 Cq.next (ZpI a (0,(λ_=>0))) λc=>match c with|b=>ZpJ b
def ZpH(a:(Ŀ (Fin 8->Int))):Cq ((Ŀ (Fin 8->Int))×Int):=
 Cq.ret (a,0)
def ZpG:((Ŀ (Fin 8->Int))×Int)->Cq (((Ŀ (Fin 8->Int)))):=
 Cq.loop λd=>match d with|(b,a)=>if a<8 then(Cq.ì (0<=a) (Cq.bind (KQ (u8.wrap (1*2 ^ (min (a).toNat u8.bits)))) λc=>Cq.ì ((b++[c]).length<=small) (Cq.ret (.inl ((b++[c]),i64.wrap (a+1))))))else(Cq.ret (.inr b))
def KP(a:(Ŀ (Fin 8->Int))):Cq ((Ŀ (Fin 8->Int))×Int):=
 Cq.bind (yE a) λc=>if(!c)=true then Cq.fail else(Cq.bind (Pj a) λb=>Cq.bind (E3 a) λd=>if d=8 then(Cq.ret (b,0))else(if 24<(i64.wrap ((a.length:Int)+8))then Cq.fail else(Cq.next (ZpG (b,0)) λf=>match f with|e=>ZpH e)))
def Zml(a:(Ŀ (Fin 8->Int))):Cq ((Ŀ (Fin 8->Int))×Int):=
 Cq.ret (a,0)
def Zmm(a:Int)(b:(Ŀ (Fin 8->Int))):Cq (((Ŀ (Fin 8->Int))×Int)⊕(((Ŀ (Fin 8->Int))))):=
 Cq.ret (.inl (b,i64.wrap (a+1)))
def PC(c:(Fin 8->Int))(d:Int)(e:(Fin 8->Int)):((Ŀ (Fin 8->Int))×Int)->Cq (((Ŀ (Fin 8->Int)))):=
 Cq.loop λf=>match f with|(b,a)=>if a<8 then(Cq.ì (0<=a/\a<8) (Cq.ì (0<=a/\a<8) (Cq.Λ b d λg=>Cq.ì (0<=Η c a/\(Η c a)<8) (Cq.ret (.inl ((b.set d.toNat (ζ g (Η c a).toNat (Η e a))),i64.wrap (a+1)))))))else(Cq.ret (.inr b))
def Zmj(e:(Fin 8->Int))(d:(Ŀ (Fin 8->Int))×Int):((Ŀ (Fin 8->Int))×Int)->Cq (((Ŀ (Fin 8->Int)))):=
 Cq.loop λf=>match f with|(b,a)=>if a<(d.1.length:Int)then(Cq.Λ d.1 a λg=>Cq.next (PC e a g (b,0)) λh=>match h with|c=>Zmm a c)else(Cq.ret (.inr b))
def PD(c:(Ŀ (Fin 8->Int)))(d:(Fin 8->Int)):Cq ((Ŀ (Fin 8->Int))×Int):=
 Cq.bind (KP c) λa=>if ¬a.2=0 then Cq.fail else(Cq.ì (0<=(a.1.length:Int)/\(a.1.length:Int)<=1000000) (Cq.next (Zmj d a ((List.replicate (a.1.length:Int).toNat (λ_=>0)),0)) λe=>match e with|b=>Zml b))
def Zmk(b:(Fin 8->Int)):(Int×(Fin 8->Bool))->Cq (((Ŀ (Fin 8->Int))×Int)⊕Unit):=
 Cq.loop λd=>match d with|(a,c)=>if a<8 then(Cq.ì (0<=a/\a<8) (if(Η b a)<0 then(Cq.ret (.inr (.inl ([],1))))else(if 8<=(Η b a)then(Cq.ret (.inr (.inl ([],1))))else(Cq.ì (0<=Η b a/\(Η b a)<8) (if(Η c (Η b a))=true then Cq.fail else(Cq.ì (0<=Η b a/\(Η b a)<8) (Cq.ret (.inl (i64.wrap (a+1),ζ c ((Η b a).toNat) true)))))))))else(Cq.ret (.inr (.inr ())))
def JY(a:(Ŀ (Fin 8->Int)))(b:(Fin 8->Int)):Cq ((Ŀ (Fin 8->Int))×Int):=
 Cq.bind (yE a) λc=>if(!c)=true then Cq.fail else(Cq.next (Zmk b (0,(λ_=>false))) λe=>match e with|.inl d=>Cq.ret d|.inr ()=>PD a b)
def Eo(b:Zb)(a:(Fin 8->Int)):Cq (Zb×Int):=
 Cq.bind (Z8 b.p a) λc=>if ¬c.2=0 then Cq.fail else(if b.kind=3 then(Cq.bind (JY b.o a) λd=>if ¬d.2=0 then Cq.fail else(Cq.ret ((Zb.mk b.kind c.1 d.1),0)))else(Cq.ret ((Zb.mk b.kind c.1 []),0)))
def Z4(a:(Ŀ Ze)):Cq (Ŀ Ze):=
 Cq.pZ a (Cq.ret []) (Cq.ì (([]++a).length<=small) (Cq.ret ([]++a)))
def ZtE(b:Zd)(c:Zc×(Fin 8->Int))(d:Zb×Int)(e:(Ŀ (Ĳ×Int))):Cq (Zd×Int×Int):=
 Cq.bind (Z4 b.t) λf=>Cq.bind (vk 5 c.1 d.1 e (Zd.mk f b.next)) λa=>if ¬a.1.2=0 then Cq.fail else(Cq.ret ((Zd.mk a.2.2.t a.2.2.next),a.1.1,0))
def ER(b:Zd):(Int×(Ŀ (Ĳ×Int)))->Cq (((Ŀ (Ĳ×Int)))):=
 Cq.loop λf=>match f with|(a,c)=>if a<(b.t.length:Int)then(Cq.Λ b.t a λe=>Cq.bind (tG e.k e.q) λd=>Cq.ì ((d.size<=1000000)/\(eV c d e.id).length<=small) (Cq.ret (.inl (i64.wrap (a+1),(eV c d e.id)))))else(Cq.ret (.inr c))
def Q9(a:Zd)(d:Zc)(e:Zb):Cq (Zd×Int×Int):=
 Cq.bind (wT d) λb=>Cq.bind (Eo e b.2) λc=>if ¬c.2=0 then Cq.fail else(Cq.next (ER a (0,[])) λg=>match g with|f=>ZtE a b c f)
def uh(c:Zd)(a:Zc)(b:Zb):Cq (Zd×Int×Int):=
 Cq.bind (vj a) λd=>match d with|false=>(Cq.ret ((Zd.mk [] 0),0,1))|true=>(Cq.bind (E6 a b) λe=>if(!e)=true then(Cq.ret ((Zd.mk [] 0),0,1))else(Q9 c a b))
def Zsu:Cq (Ze×Bool):=
 Cq.ret ((Ze.mk 0 (Zc.mk 0 [] []) (Zb.mk 0 [] []) 0 0 0 false),false)
def Kg(c:Zd)(d:Int):(Int×Ze)->Cq ((Ze×Bool)⊕Ze):=
 Cq.loop λf=>match f with|(a,b)=>if a<(c.t.length:Int)then(Cq.Λ c.t a λe=>if e.id=d then(Cq.ret (.inr (.inl (e,true))))else(Cq.ret (.inl (i64.wrap (a+1),b))))else(Cq.ret (.inr (.inr b)))
def xy(c:Zd)(a:Int):Cq (Ze×Bool):=
 Cq.next (Kg c a (0,(Ze.mk 0 (Zc.mk 0 [] []) (Zb.mk 0 [] []) 0 0 0 false))) λd=>match d with|.inl b=>Cq.ret b|.inr e=>Zsu
def fu(a:ZD)(c:(Ŀ Za)):Cq Bool:=
 Cq.bind (ê a c 64) λb=>Cq.ret b
def Za1:Cq Bool:=
 Cq.ret true
def Za0(c:(Ŀ (Ŀ Za)))(b:ZD):Int->Cq (Bool⊕Unit):=
 Cq.loop λe=>match e with|a=>if a<(c.length:Int)then(Cq.Λ c a λf=>Cq.bind (fu b f) λd=>if(!d)=true then(Cq.ret (.inr (.inl false)))else(Cq.ret (.inl (i64.wrap (a+1)))))else(Cq.ret (.inr (.inr ())))
def Pe(c:(Ŀ (Ŀ Za)))(a:ZD):Cq Bool:=
 Cq.next (Za0 c a 0) λd=>match d with|.inl b=>Cq.ret b|.inr ()=>Za1
def fj(a:ZD)(c:(Ŀ (Ŀ Za))):Cq Bool:=
 Cq.bind (Pe c a) λb=>Cq.ret b
def Ä(a:ZD)(b:(Ŀ (Ŀ Za))):Cq Bool:=
 if(b.length:Int)<=64 then(Cq.bind (fj a b) λc=>Cq.ret c)else(Cq.ret false)
def Ec(a:Int):Cq Bool:=
 if 0<=a then(Cq.ret (decide (a<=1000000)))else(Cq.ret false)
def Jp(a:Zl):Cq Bool:=
 Cq.bind (ZZ a.lo) λb=>match b with|false=>(Cq.ret false)|true=>(Cq.bind (ZZ a.hi) λc=>match c with|false=>(Cq.ret false)|true=>(Cq.bind (vh a.lo a.hi) λd=>Cq.ret (decide (d<=0))))
def tA(a:Zf):Cq Bool:=
 Cq.bind (ZZ a) λb=>match b with|false=>(Cq.ret false)|true=>(Cq.bind (ZH a) λc=>Cq.ret (decide (c=0)))
def gI:Cq Bool:=
 Cq.ret true
def gH(b:ZD)(i:(Ŀ Zl)):Int->Cq (Bool⊕Unit):=
 Cq.loop λj=>match j with|a=>if a<8 then(Cq.Λ i a λc=>if a<b.k.n then(Cq.bind (Jp c) λd=>match d with|false=>(Cq.ret (.inr (.inl false)))|true=>(if b.k.n<=a then(Cq.bind (tA c.lo) λe=>match e with|false=>(Cq.ret (.inr (.inl false)))|true=>(Cq.bind (tA c.hi) λf=>if(!f)=true then(Cq.ret (.inr (.inl false)))else(Cq.ret (.inl (i64.wrap (a+1))))))else(Cq.ret (.inl (i64.wrap (a+1))))))else(if b.k.n<=a then(Cq.bind (tA c.lo) λg=>match g with|false=>(Cq.ret (.inr (.inl false)))|true=>(Cq.bind (tA c.hi) λh=>if(!h)=true then(Cq.ret (.inr (.inl false)))else(Cq.ret (.inl (i64.wrap (a+1))))))else(Cq.ret (.inl (i64.wrap (a+1))))))else(Cq.ret (.inr (.inr ())))
def eb(a:ZD)(c:(Ŀ Zl)):Cq Bool:=
 Cq.next (gH a c 0) λd=>match d with|.inl b=>Cq.ret b|.inr ()=>gI
def Za7:Cq Bool:=
 Cq.ret true
def Za6(c:(Ŀ (Ŀ Zl)))(b:ZD):Int->Cq (Bool⊕Unit):=
 Cq.loop λe=>match e with|a=>if a<(c.length:Int)then(Cq.Λ c a λf=>Cq.bind (eb b f) λd=>if(!d)=true then(Cq.ret (.inr (.inl false)))else(Cq.ret (.inl (i64.wrap (a+1)))))else(Cq.ret (.inr (.inr ())))
def Pg(c:(Ŀ (Ŀ Zl)))(a:ZD):Cq Bool:=
 Cq.next (Za6 c a 0) λd=>match d with|.inl b=>Cq.ret b|.inr ()=>Za7
def Á(a:ZD)(b:(Ŀ (Ŀ Zl))):Cq Bool:=
 if(b.length:Int)<=64 then(Cq.bind (Pg b a) λc=>Cq.ret c)else(Cq.ret false)
def JQ(a:Int):Cq Bool:=
 if(-1)<=a then(Cq.ret (decide (a<=1)))else(Cq.ret false)
def ZP(a:Zj):Cq Bool:=
 if a.kind=0 then(if a.n=0 then(if a.d=0 then(if a.r=0 then(if(a.p.length:Int)=0 then(if(a.o.length:Int)=0 then(if(a.l.length:Int)=0 then(if(a.s.length:Int)=0 then(Cq.ret (decide ((a.b.length:Int)=0)))else(Cq.ret false))else(Cq.ret false))else(Cq.ret false))else(Cq.ret false))else(Cq.ret false))else(Cq.ret false))else(Cq.ret false))else(Cq.ret false)
def Zd5:Cq Bool:=
 Cq.ret true
def Zd4(b:(Ŀ Int)):Int->Cq (Bool⊕Unit):=
 Cq.loop λd=>match d with|a=>if a<(b.length:Int)then(Cq.Λ b a λe=>Cq.bind (JQ e) λc=>if(!c)=true then(Cq.ret (.inr (.inl false)))else(Cq.ret (.inl (i64.wrap (a+1)))))else(Cq.ret (.inr (.inr ())))
def I7(b:(Ŀ Int)):Cq Bool:=
 Cq.next (Zd4 b 0) λc=>match c with|.inl a=>Cq.ret a|.inr ()=>Zd5
def ù(a:vm)(e:Bool):Cq Bool:=
 if e=true then(Cq.bind (Ec a.c.n) λf=>if f=true then(Cq.bind (ZP (Zj.mk 0 a.c.p 0 a.c.d a.c.r a.c.o a.c.l a.c.s a.c.b)) λg=>Cq.ret g)else(Cq.ret false))else(Cq.ret false)
def ú(a:vm)(e:Bool):Cq Bool:=
 if e=true then(Cq.bind (ZP (Zj.mk 0 a.c.p a.c.n a.c.d a.c.r a.c.o a.c.l a.c.s a.c.b)) λw=>Cq.ret w)else(if a.c.kind=4 then(Cq.bind (yE a.c.o) λx=>match x with|false=>(Cq.ret false)|true=>(Cq.bind (Ä a.rules a.c.l) λy=>if y=true then(Cq.bind (ZP (Zj.mk 0 a.c.p a.c.n a.c.d a.c.r [] [] a.c.s a.c.b)) λz=>Cq.ret z)else(Cq.ret false)))else(if a.c.kind=5 then(if(-1)<=a.c.d then(if a.c.d<=a.rules.k.n then(Cq.bind (Ec a.c.n) λc=>if c=true then(Cq.bind (ZP (Zj.mk 0 a.c.p 0 0 a.c.r a.c.o a.c.l a.c.s a.c.b)) λd=>Cq.ret d)else(Cq.ret false))else(Cq.ret false))else(Cq.ret false))else(if a.c.kind=6 then(if 0<=a.c.r then(if a.c.r<=a.c.d then(if a.c.d<=a.c.n then(Cq.bind (Ec a.c.n) λf=>if f=true then(Cq.bind (ZP (Zj.mk 0 a.c.p 0 0 0 a.c.o a.c.l a.c.s a.c.b)) λg=>Cq.ret g)else(Cq.ret false))else(Cq.ret false))else(Cq.ret false))else(Cq.ret false))else(if a.c.kind=7 then(Cq.bind (Á a.rules a.c.b) λh=>if h=true then(Cq.bind (ZP (Zj.mk 0 a.c.p a.c.n a.c.d a.c.r a.c.o a.c.l a.c.s [])) λi=>Cq.ret i)else(Cq.ret false))else(if a.c.kind=8 then(Cq.bind (ê a.rules a.c.p 12) λj=>match j with|false=>(Cq.ret false)|true=>(Cq.bind (Á a.rules a.c.b) λm=>match m with|false=>(Cq.ret false)|true=>(if(a.c.s.length:Int)=(a.c.b.length:Int)then(Cq.bind (I7 a.c.s) λq=>if q=true then(Cq.bind (ZP (Zj.mk 0 [] a.c.n a.c.d a.c.r a.c.o a.c.l [] [])) λt=>Cq.ret t)else(Cq.ret false))else(Cq.ret false))))else(if a.c.kind=11 then(Cq.bind (Ä a.rules a.c.l) λu=>if u=true then(Cq.bind (ZP (Zj.mk 0 a.c.p a.c.n a.c.d a.c.r a.c.o [] a.c.s a.c.b)) λv=>Cq.ret v)else(Cq.ret false))else(if a.c.kind=12 then(ù a (decide (a.c.kind=12)))else(ù a (decide (a.c.kind=13))))))))))
def î(a:vm)(e:Bool):Cq Bool:=
 if e=true then(Cq.bind (ê a.rules a.c.p 12) λf=>if f=true then(Cq.bind (ZP (Zj.mk 0 [] a.c.n a.c.d a.c.r a.c.o a.c.l a.c.s a.c.b)) λg=>Cq.ret g)else(Cq.ret false))else(if a.c.kind=3 then(ú a (decide (a.c.kind=3)))else(ú a (decide (a.c.kind=9))))
def eZ(a:vm):Cq Bool:=
 Cq.bind (Â a.rules) λb=>if(!b)=true then(Cq.ret false)else(if a.c.kind=1 then(î a (decide (a.c.kind=1)))else(if a.c.kind=2 then(î a (decide (a.c.kind=2)))else(î a (decide (a.c.kind=10)))))
def EJ(b:Zc)(c:Zj):Cq Bool:=
 Cq.bind (eZ (vm.mk (ZD.mk b) c)) λa=>Cq.ret a
def ZkW:Cq Bool:=
 Cq.ret true
def ZkV(b:(Ŀ (Fin 8->Int)))(c:(Ŀ (Fin 8->Int))):Int->Cq (Bool⊕Unit):=
 Cq.loop λd=>match d with|a=>if a<(b.length:Int)then(Cq.Λ b a λe=>Cq.Λ c a λf=>if ¬e=f then(Cq.ret (.inr (.inl false)))else(Cq.ret (.inl (i64.wrap (a+1)))))else(Cq.ret (.inr (.inr ())))
def Ej(a:(Ŀ (Fin 8->Int)))(b:(Ŀ (Fin 8->Int))):Cq Bool:=
 if ¬(a.length:Int)=(b.length:Int)then(Cq.ret false)else(Cq.next (ZkV a b 0) λd=>match d with|.inl c=>Cq.ret c|.inr ()=>ZkW)
def JT(c:Zc)(b:Zb)(a:Zj):Cq Bool:=
 if b.kind=1 then(if a.kind=1 then(Cq.bind (ZU a.p b.p) λd=>Cq.ret d)else(if a.kind=2 then(Cq.bind (ZU a.p b.p) λe=>Cq.ret e)else(Cq.ret false)))else(if b.kind=2 then(Cq.bind (wU 1) λf=>Cq.bind (D3 f) λg=>if a.kind=3 then(Cq.ret true)else(if a.kind=2 then(if(c.δ.length:Int)=0 then(Cq.bind (ZU a.p g) λh=>Cq.ret h)else(Cq.ret false))else(Cq.ret false)))else(if b.kind=3 then(if a.kind=4 then(Cq.bind (Ej a.o b.o) λi=>Cq.ret i)else(Cq.ret false))else(if b.kind=4 then(Cq.ret (decide (a.kind=5)))else(if b.kind=5 then(Cq.ret (decide (a.kind=6)))else(if b.kind=6 then(Cq.ret (decide (a.kind=7)))else(if b.kind=7 then(if a.kind=8 then(Cq.bind (ZU a.p b.p) λj=>Cq.ret j)else(Cq.ret false))else(if b.kind=8 then(if a.kind=9 then(Cq.ret true)else(if a.kind=6 then(Cq.ret true)else(if a.kind=13 then(Cq.ret (decide (1<=a.n)))else(Cq.ret false))))else(if b.kind=9 then(if a.kind=10 then(Cq.bind (ZU a.p b.p) λk=>Cq.ret k)else(Cq.ret false))else(if b.kind=10 then(Cq.ret (decide (a.kind=11)))else(Cq.ret false))))))))))
def D5(a:Zj)(c:Bool):Cq (Int×Int):=
 if c=true then(Cq.ret ((a.b.length:Int),(a.b.length:Int)))else(if a.kind=9 then(Cq.ret (0,0))else(if a.kind=13 then(Cq.ret (a.n,(-1)))else(if a.kind=12 then(Cq.ret (0,a.n))else(Cq.ret (0,(-1))))))
def D6(a:Zj)(b:Bool):Cq (Int×Int):=
 if b=true then(if a.kind=6 then(Cq.ret (a.r,a.r))else(if a.kind=7 then(D5 a (decide (a.kind=7)))else(D5 a (decide (a.kind=8)))))else(Cq.ret (0,(-1)))
def JP(b:Zb)(a:Zj):Cq (Int×Int):=
 if b.kind=5 then(if a.kind=6 then(Cq.ret (a.n,a.n))else(if a.kind=12 then(Cq.ret (0,a.n))else(Cq.ret (0,(-1)))))else(if b.kind=8 then(D6 a (decide (b.kind=8)))else(D6 a (decide (b.kind=6))))
def Eh(c:Zj)(a:Ze):Cq Ze:=
 Cq.bind (JP a.q c) λb=>if 0<=b.2 then(if a.high<0 then(Cq.ret (Ze.mk a.id a.k a.q a.ψ (if a.low<b.1 then b.1 else a.low) b.2 a.done))else(if b.2<a.high then(Cq.ret (Ze.mk a.id a.k a.q a.ψ (if a.low<b.1 then b.1 else a.low) b.2 a.done))else(Cq.ret (Ze.mk a.id a.k a.q a.ψ (if a.low<b.1 then b.1 else a.low) a.high a.done))))else(Cq.ret (Ze.mk a.id a.k a.q a.ψ (if a.low<b.1 then b.1 else a.low) a.high a.done))
def KE(a:Ze)(b:Zj):Cq Ze:=
 Cq.bind (JT a.k a.q b) λc=>if c=true then(Eh b (Ze.mk a.id a.k a.q a.ψ a.low a.high true))else(Eh b a)
def ZpT(b:(Ŀ Ze))(a:Int):Cq (Zd×Int):=
 Cq.ret ((Zd.mk b a),0)
def yI(f:Int)(e:Int)(c:(Ŀ Ze))(a:Int)(d:Int)(b:Ze):Cq (((Ŀ Ze)×Int×Int)⊕(((Ŀ Ze)×Int))):=
 if b.id=f then(Cq.Λ c a λg=>Cq.ret (.inl ((c.set a.toNat (Ze.mk b.id b.k b.q (if b.ψ<(i64.wrap (e+1))then(i64.wrap (e+1))else b.ψ) b.low b.high b.done)),i64.wrap (a+1),d)))else(Cq.Λ c a λh=>Cq.ret (.inl ((c.set a.toNat b),i64.wrap (a+1),d)))
def ZpU(d:Int)(e:Int)(b:(Ŀ Ze))(c:Int)(a:Int)(f:Ze):Cq (((Ŀ Ze)×Int×Int)⊕(((Ŀ Ze)×Int))):=
 yI d e b c a f
def P5(b:(Ŀ Zj)):(Int×Ze)->Cq Ze:=
 Cq.loop λe=>match e with|(a,c)=>if a<(b.length:Int)then(Cq.Λ b a λf=>Cq.bind (KE c f) λd=>Cq.ret (.inl (i64.wrap (a+1),d)))else(Cq.ret (.inr c))
def ZpR(d:Int)(f:(Ŀ Zj))(e:Int)(h:Ĳ)(i:(Ŀ Ze)):((Ŀ Ze)×Int×Int)->Cq (((Ŀ Ze)×Int)):=
 Cq.loop λm=>match m with|(b,c,a)=>if c<(i.length:Int)then(Cq.Λ b c λg=>Cq.bind (vn g.k) λj=>if j=h then(Cq.next (P5 f (0,g)) λn=>match n with|l=>ZpU d e b c a l)else(yI d e b c a g))else(Cq.ret (.inr (b,a)))
def ZpV(b:Zd)(d:Int)(e:(Ŀ Zj))(f:Int)(h:Ze×Bool):Cq (Zd×Int):=
 Cq.bind (vn h.1.k) λi=>Cq.bind (Z4 b.t) λc=>Cq.next (ZpR d e f i c (c,0,b.next)) λj=>match j with|(g,a)=>ZpT g a
def ZpS(b:(Ŀ Zj))(d:Ze×Bool):(Int×Zd)->Cq ((Zd×Int)⊕Zd):=
 Cq.loop λf=>match f with|(a,c)=>if a<(b.length:Int)then(Cq.Λ b a λg=>Cq.bind (EJ d.1.k g) λe=>if(!e)=true then(Cq.ret (.inr (.inl ((Zd.mk [] 0),1))))else(Cq.ret (.inl (i64.wrap (a+1),c))))else(Cq.ret (.inr (.inr c)))
def P6(c:Zd)(d:Int)(a:(Ŀ Zj))(e:Int)(b:Ze×Bool)(f:Zd):Cq (Zd×Int):=
 Cq.next (ZpS a b (0,f)) λh=>match h with|.inl g=>Cq.ret g|.inr i=>ZpV c d a e b
def xh(b:Zd)(c:Int)(e:(Ŀ Zj))(a:Int):Cq (Zd×Int):=
 Cq.bind (xy b c) λd=>if(!d.2)=true then(Cq.ret ((Zd.mk [] 0),380))else(if a<0 then(Cq.ret ((Zd.mk [] 0),1))else(if 12<a then(Cq.ret ((Zd.mk [] 0),1))else(P6 b c e a d (Zd.mk [] 0))))
def JN(a:Ze)(b:Ze):Cq Bool:=
 if a.id=b.id then(if a.ψ=b.ψ then(if a.low=b.low then(if a.high=b.high then(if a.done=b.done then(Cq.bind (wX a.k b.k) λc=>match c with|false=>(Cq.ret false)|true=>(Cq.bind (D8 a.q b.q) λd=>Cq.ret d))else(Cq.ret false))else(Cq.ret false))else(Cq.ret false))else(Cq.ret false))else(Cq.ret false)
def Zti:Cq Bool:=
 Cq.ret true
def Zth(b:Zd)(d:Zd):Int->Cq (Bool⊕Unit):=
 Cq.loop λe=>match e with|a=>if a<(b.t.length:Int)then(Cq.Λ b.t a λf=>Cq.Λ d.t a λg=>Cq.bind (JN f g) λc=>if(!c)=true then Cq.fail else(Cq.ret (.inl (i64.wrap (a+1)))))else(Cq.ret (.inr (.inr ())))
def Bf(a:Zd)(b:Zd):Cq Bool:=
 if ¬a.next=b.next then(Cq.ret false)else(if ¬(a.t.length:Int)=(b.t.length:Int)then Cq.fail else(Cq.next (Zth a b 0) λd=>match d with|.inl c=>Cq.ret c|.inr ()=>Zti))
def PR(a:Ze):Cq Bool:=
 Cq.bind (wT a.k) λb=>Cq.bind (vn b.1) λd=>Cq.bind (vn a.k) λe=>if ¬d=e then(Cq.ret false)else(Cq.bind (Eo a.q b.2) λc=>if c.2=0 then(Cq.bind (A4 c.1) λf=>Cq.bind (A4 a.q) λg=>Cq.ret (decide (f=g)))else(Cq.ret false))
def JI(a:Ze):Cq Bool:=
 Cq.bind (vj a.k) λb=>match b with|false=>(Cq.ret false)|true=>(Cq.bind (E6 a.k a.q) λc=>if(!c)=true then(Cq.ret false)else(PR a))
def KA(a:Ze):Cq Bool:=
 if a.ψ<0 then(Cq.ret false)else(if 13<a.ψ then(Cq.ret false)else(if a.low<0 then(Cq.ret false)else(if a.high<(-1)then(Cq.ret false)else(JI a))))
def Zp1:Cq Bool:=
 Cq.ret true
def Zp2(b:Int)(c:(Ŀ (Ĳ×Bool)))(d:Ze):Cq ((Int×Int×(Ŀ (Ĳ×Bool)))⊕(Bool⊕Unit)):=
 Cq.bind (tG d.k d.q) λa=>Cq.ì ((a.size<=1000000)/\(eV c a true).length<=small) (Cq.ret (.inl (d.id,i64.wrap (b+1),(eV c a true))))
def J3(d:(Ŀ (Ĳ×Bool)))(e:Ze)(b:(Ŀ Zb)):Int->Cq (Bool⊕Unit):=
 Cq.loop λf=>match f with|a=>if a<(b.length:Int)then(Cq.Λ b a λg=>Cq.bind (tG e.k g) λc=>Cq.ì (c.size<=1000000) (if(!((fh d c).getD false))=true then(Cq.ret (.inr (.inl false)))else(Cq.ret (.inl (i64.wrap (a+1))))))else(Cq.ret (.inr (.inr ())))
def P7(a:Int)(b:(Ŀ (Ĳ×Bool)))(c:Ze):Cq ((Int×Int×(Ŀ (Ĳ×Bool)))⊕(Bool⊕Unit)):=
 Cq.bind (yK c.q) λd=>Cq.next (J3 b c d 0) λf=>match f with|.inl e=>Cq.ret (.inr (.inl e))|.inr ()=>Zp2 a b c
def J2(b:Zd):(Int×Int×(Ŀ (Ĳ×Bool)))->Cq (Bool⊕Unit):=
 Cq.loop λh=>match h with|(f,a,d)=>if a<(b.t.length:Int)then(Cq.Λ b.t a λc=>if c.id<=f then(Cq.ret (.inr (.inl false)))else(if b.next<=c.id then(Cq.ret (.inr (.inl false)))else(Cq.bind (KA c) λg=>match g with|false=>(Cq.ret (.inr (.inl false)))|true=>(Cq.bind (tG c.k c.q) λe=>Cq.ì (e.size<=1000000) (if((fh d e).getD false)=true then(Cq.ret (.inr (.inl false)))else(P7 a d c))))))else(Cq.ret (.inr (.inr ())))
def P8(a:Zd):Cq Bool:=
 Cq.next (J2 a (0,0,[])) λc=>match c with|.inl b=>Cq.ret b|.inr ()=>Zp1
def E5(a:Zd):Cq Bool:=
 if a.next<1 then(Cq.ret false)else(if 1000000<a.next then(Cq.ret false)else(if 100<(a.t.length:Int)then(Cq.ret false)else(P8 a)))
def J0(d:Zb)(b:(Ŀ (Ĳ×Bool)))(c:Ze):Cq Bool:=
 Cq.bind (tG c.k d) λa=>Cq.ì (a.size<=1000000) (Cq.ret (!((fh b a).getD false)))
def ZR(a:(Ŀ Ze)):Cq (Ŀ Ze):=
 Cq.bind (tZ (u64.wrap (a.length:Int))) λb=>Cq.bind (Ph a 0 (a.length:Int) b) λc=>Cq.ret c
def Zax:Cq Int:=
 Cq.ret (-1)
def Zaw(d:(Ŀ Zb))(b:(Ŀ (Ĳ×Bool)))(c:Ze):Int->Cq (Int⊕Unit):=
 Cq.loop λf=>match f with|a=>if a<(d.length:Int)then(Cq.Λ d a λg=>Cq.bind (J0 g b c) λe=>if e=true then(Cq.ret (.inr (.inl a)))else(Cq.ret (.inl (i64.wrap (a+1)))))else(Cq.ret (.inr (.inr ())))
def ZW(d:(Ŀ Zb))(a:(Ŀ (Ĳ×Bool)))(b:Ze):Cq Int:=
 Cq.next (Zaw d a b 0) λe=>match e with|.inl c=>Cq.ret c|.inr ()=>Zax
def ZG(d:(Ŀ Zb))(a:(Ŀ (Ĳ×Bool)))(b:Ze):Cq Bool:=
 Cq.bind (ZW d a b) λc=>Cq.ret (decide (0<=c))
def ZpY(a:(Ŀ Int)):Cq (Ŀ Int):=
 Cq.ret a
def ZpW(c:(Ŀ Ze)):((Ŀ Int)×Int)->Cq (Ŀ Int):=
 Cq.loop λe=>match e with|(a,b)=>if b<(c.length:Int)then(Cq.Λ c b λd=>Cq.ì ((a++[d.id]).length<=small) (Cq.ret (.inl ((a++[d.id]),i64.wrap (b+1)))))else(Cq.ret (.inr a))
def ZpZ(b:(Ŀ Ze)):Cq (Ŀ Int):=
 Cq.bind (ZR b) λc=>Cq.next (ZpW c ([],0)) λd=>match d with|a=>ZpY a
def ZpX(d:Zd)(e:(Ŀ (Ĳ×Bool))):((Ŀ Ze)×Int)->Cq (Ŀ Ze):=
 Cq.loop λh=>match h with|(b,a)=>if a<(d.t.length:Int)then(Cq.Λ d.t a λc=>if c.done=true then(Cq.ret (.inl (b,i64.wrap (a+1))))else(if c.ψ<=12 then(Cq.bind (yK c.q) λf=>Cq.bind (ZG f e c) λg=>if(!g)=true then(Cq.ì ((b++[c]).length<=small) (Cq.ret (.inl ((b++[c]),i64.wrap (a+1)))))else(Cq.ret (.inl (b,i64.wrap (a+1)))))else(Cq.ret (.inl (b,i64.wrap (a+1))))))else(Cq.ret (.inr b))
def Zp0(a:Zd)(c:(Ŀ (Ĳ×Bool))):Cq (Ŀ Int):=
 Cq.next (ZpX a c ([],0)) λd=>match d with|b=>ZpZ b
def Eg(c:Zd):(Int×(Ŀ (Ĳ×Bool)))->Cq (((Ŀ (Ĳ×Bool)))):=
 Cq.loop λf=>match f with|(a,b)=>if a<(c.t.length:Int)then(Cq.Λ c.t a λe=>if e.done=true then(Cq.bind (tG e.k e.q) λd=>Cq.ì ((d.size<=1000000)/\(eV b d true).length<=small) (Cq.ret (.inl (i64.wrap (a+1),(eV b d true)))))else(Cq.ret (.inl (i64.wrap (a+1),b))))else(Cq.ret (.inr b))
def KD(a:Zd):Cq (Ŀ Int):=
 Cq.next (Eg a (0,[])) λc=>match c with|b=>Zp0 a b
def Jd(i:(Ŀ Za)×Int)(j:Zd×Int×Int):Cq Bool:=
 Cq.bind (Bc 5) λd=>Cq.bind (uh j.1 (Zc.mk 1 [i.1] []) d) λa=>if ¬a.2.2=0 then(Cq.ret false)else(Cq.bind (xh a.1 a.2.1 [(Zj.mk 12 [] 5 0 0 [] [] [] []),(Zj.mk 12 [] 7 0 0 [] [] [] [])] 0) λc=>Cq.bind (xy c.1 a.2.1) λb=>if c.2=0 then(if b.2=true then(if b.1.high=5 then(if b.1.low=0 then(if b.1.done=true then(Cq.ret false)else(Cq.bind (F0) λe=>Cq.bind (E5 e) λf=>match f with|false=>(Cq.ret false)|true=>(Cq.bind (F0) λg=>Cq.bind (KD g) λh=>Cq.ret (decide ((h.length:Int)=0)))))else(Cq.ret false))else(Cq.ret false))else(Cq.ret false))else(Cq.ret false))
def JG:Cq Bool:=
 Cq.bind (Mg 0) λc=>Cq.bind (F0) λk=>Cq.bind (Bc 4) λl=>Cq.bind (uh k (Zc.mk 1 [c.1] []) l) λa=>Cq.bind (Bc 4) λm=>Cq.bind (uh a.1 (Zc.mk 1 [c.1] []) m) λd=>Cq.bind (xh a.1 a.2.1 [(Zj.mk 5 [] 1 0 0 [] [] [] [])] 3) λe=>Cq.bind (Bc 11) λf=>Cq.bind (uh a.1 (Zc.mk 1 [c.1] []) f) λg=>Cq.bind (xh a.1 a.1.next [] 3) λh=>Cq.bind (xh a.1 a.2.1 [] 13) λi=>Cq.bind (xy e.1 a.2.1) λb=>if ¬a.2.2=0 then(Cq.ret false)else(if ¬d.2.2=0 then(Cq.ret false)else(if ¬e.2=0 then(Cq.ret false)else(if ¬g.2.2=1 then(Cq.ret false)else(if ¬h.2=380 then(Cq.ret false)else(if ¬i.2=1 then(Cq.ret false)else(if ¬a.2.1=d.2.1 then(Cq.ret false)else(Cq.bind (Bf a.1 d.1) λj=>match j with|false=>(Cq.ret false)|true=>(if b.2=true then(if b.1.done=true then(if ¬b.1.ψ=4 then(Cq.ret false)else(if ¬b.1.high=(-1)then(Cq.ret false)else(Jd c a)))else(Cq.ret false))else(Cq.ret false)))))))))
def UA:Cq Zd:=
 Cq.ret (Zd.mk [] 1)
def Gg(a:Int):Cq Int:=
 if a<0 then(Cq.ret (i64.wrap (0-(i64.wrap a))))else(Cq.ret (i64.wrap a))
def Lb(b:Zf)(c:(Ŀ Za)):Cq (Ŀ Za):=
 Cq.bind (FH b (λ_=>0) c) λa=>Cq.ret a.1
def ZsX(a:(Ŀ Za)):Cq (Ŀ Za):=
 Cq.ret a
def ZsY(b:Zu)(c:(Ŀ Za))(a:Int)(d:(Fin 8->Int)):Cq (((Ŀ Za)×Int)⊕(Ŀ Za)):=
 Cq.Λ b.t a λi=>Cq.bind (ZX (i64.wrap (Int.tmod (Η i 0) 4))) λe=>Cq.bind (ZX 1) λf=>Cq.bind (Lb e [(Za.mk f d)]) λg=>Cq.bind (Bp c g) λh=>Cq.ret (.inl (h,i64.wrap (a+1)))
def Rg(f:Zu)(g:Int)(d:Int):(Int×Int×(Fin 8->Int))->Cq (Fin 8->Int):=
 Cq.loop λh=>match h with|(b,a,c)=>if a<g then(if a<4 then(Cq.Λ f.t d λi=>Cq.ì (0<=i64.wrap (1+a)/\(i64.wrap (1+a))<5) (Cq.bind (Gg (Η i (i64.wrap (1+a)))) λe=>Cq.ì ((i64.wrap (b+1))≠0) (Cq.ì (0<=a/\a<8) (Cq.ì (0<=a/\a<8) (Cq.ret (.inl (i64.wrap (b-(Η (ζ c a.toNat (Int.tmod e (i64.wrap (b+1)))) a)),i64.wrap (a+1),ζ c a.toNat (Int.tmod e (i64.wrap (b+1))))))))))else(Cq.ret (.inr c)))else(Cq.ret (.inr c))
def Rh(b:Zu)(c:Int)(d:Int)(e:(Ŀ Za))(a:Int):Cq (((Ŀ Za)×Int)⊕(Ŀ Za)):=
 Cq.next (Rg b c a (d,0,(λ_=>0))) λg=>match g with|f=>ZsY b e a f
def ZsW(c:Zu)(d:Int)(e:Int)(f:Int):((Ŀ Za)×Int)->Cq (Ŀ Za):=
 Cq.loop λg=>match g with|(b,a)=>if a<(c.t.length:Int)then(if a<f then(Rh c d e b a)else(Cq.ret (.inr b)))else(Cq.ret (.inr b))
def Bi(a:Zu)(b:Int)(c:Int)(d:Int):Cq (Ŀ Za):=
 Cq.next (ZsW a b c d ([],0)) λf=>match f with|e=>ZsX e
def Kb(a:(Ŀ Ĳ))(d:(Ŀ Zn))(b:(Ŀ Zn))(c:Int):Cq Zx:=
 Cq.ret (Zx.mk a d b c)
def EU(h:ZA)(f:Int)(e:(Ŀ Ĳ))(d:(Ŀ Zn))(b:(Ŀ Zn))(a:Int)(c:Int):Cq ((Int×(Ŀ Ĳ)×(Ŀ Zn)×(Ŀ Zn)×Int)⊕(((Ŀ Ĳ)×(Ŀ Zn)×(Ŀ Zn)×Int))):=
 Cq.Λ h.l f λi=>Cq.bind (Bi i (i64.wrap (Int.tmod h.n 4)) 2 3) λg=>if(Int.tmod f 3)=2 then(Cq.ì ((b++[(Zn.mk (i64.wrap (a+c)) g)]).length<=small) (Cq.ret (.inl (i64.wrap (f+1),e,d,(b++[(Zn.mk (i64.wrap (a+c)) g)]),i64.wrap ((i64.wrap (a+c))+1)))))else(Cq.ì ((d++[(Zn.mk (i64.wrap (a+c)) g)]).length<=small) (Cq.ret (.inl (i64.wrap (f+1),e,(d++[(Zn.mk (i64.wrap (a+c)) g)]),b,i64.wrap ((i64.wrap (a+c))+1)))))
def EV(a:ZA)(f:Int)(b:(Ŀ Ĳ))(e:(Ŀ Zn))(c:(Ŀ Zn))(d:Int):Cq ((Int×(Ŀ Ĳ)×(Ŀ Zn)×(Ŀ Zn)×Int)⊕(((Ŀ Ĳ)×(Ŀ Zn)×(Ŀ Zn)×Int))):=
 if 0<(a.ik.length:Int)then(Cq.ì ((a.ik.length:Int)≠0) (Cq.Λ a.ik (Int.tmod f (a.ik.length:Int)) λg=>EU a f b e c d (i64.wrap (Int.tmod g 4))))else(EU a f b e c d 0)
def Zta(f:ZA):(Int×(Ŀ Ĳ)×(Ŀ Zn)×(Ŀ Zn)×Int)->Cq (((Ŀ Ĳ)×(Ŀ Zn)×(Ŀ Zn)×Int)):=
 Cq.loop λg=>match g with|(e,a,d,b,c)=>if e<(f.l.length:Int)then(if e<6 then(EV f e a d b c)else(Cq.ret (.inr (a,d,b,c))))else(Cq.ret (.inr (a,d,b,c)))
def FX(a:ZA):Cq Zx:=
 Cq.ì (0<=(0:Int)/\(0:Int)<=(i64.wrap (Int.tmod a.n 4))/\(i64.wrap (Int.tmod a.n 4))<=([AJ,AI,AH].length:Int)) (Cq.next (Zta a (0,(([AJ,AI,AH].take (i64.wrap (Int.tmod a.n 4)).toNat).drop (0:Int).toNat),[],[],1)) λf=>match f with|(b,e,c,d)=>Kb b e c d)
def Zte:Cq Bool:=
 Cq.ret true
def Ztd(b:(Ŀ Zn))(d:Int)(c:Int):Int->Cq (Bool⊕Unit):=
 Cq.loop λg=>match g with|a=>if a<(b.length:Int)then(Cq.Λ b a λh=>if h.id<1 then(Cq.ret (.inr (.inl false)))else(Cq.Λ b a λi=>if c<=i.id then(Cq.ret (.inr (.inl false)))else(if 0<a then(Cq.Λ b (i64.wrap (a-1)) λj=>Cq.Λ b a λk=>if k.id<=j.id then(Cq.ret (.inr (.inl false)))else(Cq.Λ b a λl=>Cq.bind (yR l.p d) λe=>if(!e)=true then(Cq.ret (.inr (.inl false)))else(Cq.ret (.inl (i64.wrap (a+1))))))else(Cq.Λ b a λm=>Cq.bind (yR m.p d) λf=>if(!f)=true then(Cq.ret (.inr (.inl false)))else(Cq.ret (.inl (i64.wrap (a+1))))))))else(Cq.ret (.inr (.inr ())))
def Be(b:(Ŀ Zn))(d:Int)(a:Int):Cq Bool:=
 if 12<(b.length:Int)then(Cq.ret false)else(Cq.next (Ztd b d a 0) λe=>match e with|.inl c=>Cq.ret c|.inr ()=>Zte)
def AO(a:Int):Cq Bool:=
 if 65<=a then(if a<=90 then(Cq.ret true)else(if 97<=a then(Cq.ret (decide (a<=122)))else(Cq.ret false)))else(if 97<=a then(Cq.ret (decide (a<=122)))else(Cq.ret false))
def Ztc:Cq Bool:=
 Cq.ret true
def Ztb(b:Ĳ):Int->Cq (Bool⊕Unit):=
 Cq.loop λd=>match d with|a=>if a<(b.size:Int)then(Cq.ì (0<=(a:Int)/\a<(b.size:Int)) (Cq.bind (AO (eP b a)) λc=>match c with|false=>(Cq.ì (0<=(a:Int)/\a<(b.size:Int)) (if 48<=(eP b a)then(Cq.ì (0<=(a:Int)/\a<(b.size:Int)) (if(eP b a)<=57 then(Cq.ret (.inl (i64.wrap (a+1))))else(Cq.ì (0<=(a:Int)/\a<(b.size:Int)) (if ¬(eP b a)=95 then(Cq.ret (.inr (.inl false)))else(Cq.ret (.inl (i64.wrap (a+1))))))))else(Cq.ì (0<=(a:Int)/\a<(b.size:Int)) (if ¬(eP b a)=95 then(Cq.ret (.inr (.inl false)))else(Cq.ret (.inl (i64.wrap (a+1))))))))|true=>(Cq.ret (.inl (i64.wrap (a+1))))))else(Cq.ret (.inr (.inr ())))
def Rj(b:Ĳ):Cq Bool:=
 Cq.next (Ztb b 1) λc=>match c with|.inl a=>Cq.ret a|.inr ()=>Ztc
def FN(a:Ĳ):Cq Bool:=
 if(a.size:Int)<1 then(Cq.ret false)else(if 12<(a.size:Int)then(Cq.ret false)else(Cq.ì (0<=(0:Int)/\0<(a.size:Int)) (Cq.bind (AO (eP a 0)) λb=>if(!b)=true then(Cq.ret false)else(Rj a))))
def ZqU:Cq Bool:=
 Cq.ret true
def ZqV(a:Int):Cq (Int⊕(Bool⊕Unit)):=
 Cq.ret (.inl (i64.wrap (a+1)))
def ZqR(a:Zx)(c:Int):Int->Cq (Bool⊕Unit):=
 Cq.loop λd=>match d with|b=>if b<(a.δ.length:Int)then(Cq.Λ a.eqs c λe=>Cq.Λ a.δ b λf=>if e.id=f.id then(Cq.ret (.inr (.inl false)))else(Cq.ret (.inl (i64.wrap (b+1)))))else(Cq.ret (.inr (.inr ())))
def ZqQ(b:Zx):Int->Cq (Bool⊕Unit):=
 Cq.loop λd=>match d with|a=>if a<(b.eqs.length:Int)then(Cq.next (ZqR b a 0) λe=>match e with|.inl c=>Cq.ret (.inr (.inl c))|.inr ()=>ZqV a)else(Cq.ret (.inr (.inr ())))
def QK(a:Zx):Cq Bool:=
 Cq.next (ZqQ a 0) λc=>match c with|.inl b=>Cq.ret b|.inr ()=>ZqU
def Qu(b:Zx)(a:Int):Cq (Int⊕(Bool⊕Unit)):=
 Cq.Λ b.vars a λd=>Cq.bind (FN d) λc=>if(!c)=true then(Cq.ret (.inr (.inl false)))else(Cq.ret (.inl (i64.wrap (a+1))))
def ZqT(b:Zx)(c:Int):Int->Cq (Bool⊕Unit):=
 Cq.loop λd=>match d with|a=>if a<c then(Cq.Λ b.vars c λe=>Cq.Λ b.vars a λf=>if e=f then(Cq.ret (.inr (.inl false)))else(Cq.ret (.inl (i64.wrap (a+1)))))else(Cq.ret (.inr (.inr ())))
def ZqS(a:Zx):Int->Cq (Bool⊕Unit):=
 Cq.loop λd=>match d with|b=>if b<(a.vars.length:Int)then(Cq.next (ZqT a b 0) λe=>match e with|.inl c=>Cq.ret (.inr (.inl c))|.inr ()=>Qu a b)else(Cq.ret (.inr (.inr ())))
def Qv(a:Zx):Cq Bool:=
 Cq.next (ZqS a 0) λc=>match c with|.inl b=>Cq.ret b|.inr ()=>QK a
def Fo(a:Zx):Cq Bool:=
 if 4<(a.vars.length:Int)then(Cq.ret false)else(if a.next<1 then(Cq.ret false)else(if 1000000<a.next then(Cq.ret false)else(Cq.bind (Be a.eqs (a.vars.length:Int) a.next) λb=>match b with|false=>(Cq.ret false)|true=>(Cq.bind (Be a.δ (a.vars.length:Int) a.next) λc=>if(!c)=true then(Cq.ret false)else(Qv a)))))
def ZqP(a:(Ŀ (Ŀ Za))):Cq ((Ŀ (Ŀ Za))):=
 Cq.ret a
def ZqO(c:(Ŀ Zn)):((Ŀ (Ŀ Za))×Int)->Cq (((Ŀ (Ŀ Za)))):=
 Cq.loop λe=>match e with|(a,b)=>if b<(c.length:Int)then(Cq.Λ c b λd=>Cq.ì ((a++[d.p]).length<=small) (Cq.ret (.inl ((a++[d.p]),i64.wrap (b+1)))))else(Cq.ret (.inr a))
def Fm(b:(Ŀ Zn)):Cq ((Ŀ (Ŀ Za))):=
 Cq.next (ZqO b ([],0)) λc=>match c with|a=>ZqP a
def LA(a:Zx):Cq (Zc×Int):=
 Cq.bind (Fo a) λc=>if(!c)=true then(Cq.ret ((Zc.mk 0 [] []),320))else(Cq.bind (Fm a.eqs) λd=>Cq.bind (Fm a.δ) λe=>Cq.bind (Fg (if 1<(a.vars.length:Int)then(a.vars.length:Int)else 1) d e) λb=>Cq.ret (b.1,b.2))
def y3(d:Zs):Cq Zc:=
 Cq.bind (FX d.c) λa=>Cq.bind (LA a) λb=>Cq.ret b.1
def Uz:Cq ((Ŀ (Fin 8->Int))):=
 Cq.ret []
def E9:Cq ((Ŀ (Fin 8->Int))):=
 Cq.ret [ζ (ζ (ζ (ζ (ζ (ζ (ζ (ζ (λ_=>0) 0 1) 1 1) 2 1) 3 1) 4 1) 5 1) 6 1) 7 1]
def ZnP(a:(Ŀ (Fin 8->Int))):Cq ((Ŀ (Fin 8->Int))):=
 Cq.ret a
def ZnO:((Ŀ (Fin 8->Int))×Int)->Cq (((Ŀ (Fin 8->Int)))):=
 Cq.loop λd=>match d with|(b,c)=>if 0<c then(Cq.bind (FU c (-1)) λa=>Cq.ì ((b++[a]).length<=small) (Cq.ret (.inl ((b++[a]),i64.wrap (c-1)))))else(Cq.ret (.inr b))
def ES:Cq ((Ŀ (Fin 8->Int))):=
 Cq.bind (E9) λa=>Cq.next (ZnO (a,7)) λb=>match b with|c=>ZnP c
def Vo(a:Int)(b:Int):Cq Bool:=
 Cq.ì (0<=(u64.wrap b)) (Cq.ret (decide ((u8.wrap (BitVec.ofInt u8.bits (Int.fdiv a (2 ^ (min (u64.wrap b).toNat u8.bits))) &&& BitVec.ofInt u8.bits 1).toNat)=1)))
def Zjo(a:(Fin 8->Int)):Cq ((Ŀ (Fin 8->Int))):=
 Cq.bind (ES) λb=>Cq.ì (([a]++b).length<=small) (Cq.ret ([a]++b))
def Zjn(c:Int):(Int×(Fin 8->Int))->Cq (Fin 8->Int):=
 Cq.loop λe=>match e with|(a,b)=>if a<8 then(Cq.bind (Vo c a) λd=>if d=true then(Cq.ì (0<=a/\a<8) (Cq.ret (.inl (i64.wrap (a+1),ζ b a.toNat 1))))else(Cq.ret (.inl (i64.wrap (a+1),b))))else(Cq.ret (.inr b))
def Jg(a:Int):Cq ((Ŀ (Fin 8->Int))):=
 Cq.next (Zjn a (0,(λ_=>0))) λc=>match c with|b=>Zjo b
def ET(b:Int)(a:Bool):Cq ((Ŀ (Fin 8->Int))):=
 if a=true then(Cq.bind (ES) λc=>Cq.ret c)else(if(Int.tmod b 8)=4 then(Cq.ret [ζ (ζ (ζ (ζ (ζ (ζ (ζ (ζ (λ_=>0) 0 2) 1 3) 2 1) 3 1) 4 1) 5 1) 6 1) 7 1])else(if(Int.tmod b 8)=5 then(Cq.ret [ζ (ζ (ζ (ζ (ζ (ζ (ζ (ζ (λ_=>0) 0 1) 1 1) 2 0) 3 0) 4 0) 5 0) 6 0) 7 0,ζ (ζ (ζ (ζ (ζ (ζ (ζ (ζ (λ_=>0) 0 1) 1 0) 2 2) 3 1) 4 1) 5 1) 6 1) 7 1])else(Cq.bind (Jg (Int.tmod (u8.wrap (Int.tdiv b 8)) 16)) λd=>Cq.ret d)))
def xB(a:Int):Cq ((Ŀ (Fin 8->Int))):=
 if(Int.tmod a 8)=0 then(Cq.bind (Uz) λb=>Cq.ret b)else(if(Int.tmod a 8)=1 then(Cq.bind (E9) λc=>Cq.ret c)else(if(Int.tmod a 8)=2 then(ET a (decide ((Int.tmod a 8)=2)))else(ET a (decide ((Int.tmod a 8)=3)))))
def EH(c:Zs)(a:Zb):Cq Zb:=
 if a.kind=3 then(Cq.bind (xB c.o) λb=>Cq.ret (Zb.mk a.kind a.p b))else(Cq.ret a)
def yZ(a:Zs)(b:Zc):Cq Zb:=
 Cq.bind (Eu (i64.wrap (Int.tmod a.kind 12))) λc=>if c=true then(Cq.bind (Bi a.p (if 3<b.n then 3 else b.n) 2 3) λd=>EH a (Zb.mk (i64.wrap (Int.tmod a.kind 12)) d []))else(EH a (Zb.mk (i64.wrap (Int.tmod a.kind 12)) [] []))
def QT(a:(Ŀ (Ŀ Za))):Cq ((Ŀ (Ŀ Za))):=
 Cq.ret a
def ZsV(g:(Ŀ Zu))(h:Int)(f:Int)(b:Int)(c:Int):((Ŀ (Ŀ Za))×Int)->Cq (((Ŀ (Ŀ Za)))):=
 Cq.loop λi=>match i with|(a,d)=>if d<(g.length:Int)then(if d<c then(Cq.Λ g d λj=>Cq.bind (Bi j h f b) λe=>Cq.ì ((a++[e]).length<=small) (Cq.ret (.inl ((a++[e]),i64.wrap (d+1)))))else(Cq.ret (.inr a)))else(Cq.ret (.inr a))
def Lz(e:(Ŀ Zu))(f:Int)(c:Int)(a:Int)(b:Int):Cq ((Ŀ (Ŀ Za))):=
 Cq.next (ZsV e f c a b ([],0)) λg=>match g with|d=>QT d
def Zs9(a:(Ŀ (Ŀ Za))):Cq ((Ŀ (Ŀ Za))):=
 Cq.ret a
def Zs8(b:(Ŀ (Ŀ Za)))(e:Int)(f:Int):((Ŀ (Ŀ Za))×Int)->Cq (((Ŀ (Ŀ Za)))):=
 Cq.loop λg=>match g with|(a,c)=>if c<f then(if(b.length:Int)=0 then(Cq.ì ((a++[[]]).length<=small) (Cq.ret (.inl ((a++[[]]),i64.wrap (c+1)))))else(Cq.ì ((b.length:Int)≠0) (Cq.Λ b (Int.tmod (i64.wrap (e+c)) (b.length:Int)) λd=>Cq.ì ((a++[d]).length<=small) (Cq.ret (.inl ((a++[d]),i64.wrap (c+1)))))))else(Cq.ret (.inr a))
def xC(b:(Ŀ (Ŀ Za)))(c:Int)(d:Int):Cq ((Ŀ (Ŀ Za))):=
 Cq.next (Zs8 b c d ([],0)) λe=>match e with|a=>Zs9 a
def ua(a:(Ŀ Int))(b:Int):Cq Int:=
 if(a.length:Int)=0 then(Cq.ret 0)else(Cq.ì ((a.length:Int)≠0) (Cq.Λ a (Int.tmod b (a.length:Int)) λc=>Cq.ret (i64.wrap c)))
def ZsG(d:vi)(a:Zg)(b:Zg):Cq Zf:=
 if(Int.tmod d.k 8)=6 then Cq.fail else(Cq.bind (AK b a) λc=>Cq.ret c)
def QN(a:vi)(b:Zg)(c:Zg):Cq Zf:=
 Cq.bind (uq (i64.wrap (4611686018427387904+(i64.wrap a.k)))) λd=>if(Int.tmod a.k 8)=7 then Cq.fail else(ZsG a c b)
def xv(a:vi):Cq Zf:=
 Cq.bind (uq (i64.wrap a.n)) λb=>Cq.bind (uq (i64.wrap a.d)) λc=>if a.d=0 then Cq.fail else(QN a b c)
def ZuS(a:(Ŀ Zl)):Cq (Ŀ Zl):=
 Cq.ret a
def RQ(d:(Ŀ Int))(e:Int):(Int×(Ŀ Zl))->Cq (Ŀ Zl):=
 Cq.loop λj=>match j with|(a,b)=>if a<2 then(Cq.bind (ua d (i64.wrap (e+a))) λf=>Cq.bind (xv (vi.mk (i8.wrap f) 3 0)) λc=>Cq.bind (ua d e) λg=>Cq.bind (xv (vi.mk (i8.wrap (i64.wrap (BitVec.ofInt i64.bits g &&& BitVec.ofInt i64.bits 7).toNat)) 2 0)) λh=>Cq.bind (vC c h) λi=>Cq.Λ b a λk=>Cq.ret (.inl (i64.wrap (a+1),b.set a.toNat (Zl.mk c i))))else(Cq.ret (.inr b))
def ZuT(c:(Ŀ Int))(d:Int)(a:(Ŀ Zl)):Cq (Ŀ Zl):=
 Cq.next (RQ c d (0,a)) λe=>match e with|b=>ZuS b
def RR:(Int×(Ŀ Zl))->Cq (Ŀ Zl):=
 Cq.loop λe=>match e with|(b,a)=>if b<8 then(Cq.bind (ZX 0) λc=>Cq.bind (ZX 0) λd=>Cq.Λ a b λf=>Cq.ret (.inl (i64.wrap (b+1),a.set b.toNat (Zl.mk c d))))else(Cq.ret (.inr a))
def Mh(b:(Ŀ Int))(c:Int):Cq (Ŀ Zl):=
 Cq.next (RR (0,(List.replicate 8 (Zl.mk (Zf.mk (Zg.mk false []) (Zg.mk false [])) (Zf.mk (Zg.mk false []) (Zg.mk false [])))))) λd=>match d with|a=>ZuT b c a
def ZlN(j:(Ŀ Za))(a:Int)(i:(Ŀ Za))(b:Int)(c:Int)(d:Int)(e:(Ŀ (Fin 8->Int)))(f:(Ŀ (Ŀ Za)))(g:(Ŀ Int))(h:(Ŀ (Ŀ Zl))):Cq Zj:=
 if a=8 then(Cq.ret (Zj.mk a j b c d e f g h))else(Cq.ret (Zj.mk a i b c d e f g h))
def Jn(k:ZM)(o:(Ŀ Za))(n:Int):(Int×Int×(Ŀ Za)×Int×Int×Int×(Ŀ (Fin 8->Int))×(Ŀ (Ŀ Za))×(Ŀ Int)×(Ŀ (Ŀ Zl)))->Cq ((Int×(Ŀ Za)×Int×Int×Int×(Ŀ (Fin 8->Int))×(Ŀ (Ŀ Za))×(Ŀ Int)×(Ŀ (Ŀ Zl)))):=
 Cq.loop λp=>match p with|(b,a,l,e,f,g,h,i,c,d)=>if b<(i64.wrap (BitVec.ofInt i64.bits (i64.wrap (BitVec.ofInt i64.bits n &&& BitVec.ofInt i64.bits 7).toNat) &&& BitVec.ofInt i64.bits 3).toNat)then(Cq.bind (Mh k.v b) λj=>Cq.ì ((d++[j]).length<=small) (if a=8 then(Cq.bind (ua k.v b) λm=>Cq.ì ((c++[i64.wrap ((Int.tmod (i64.wrap (BitVec.ofInt i64.bits m &&& BitVec.ofInt i64.bits 127).toNat) 3)-1)]).length<=small) (Cq.ret (.inl (i64.wrap (b+1),a,o,e,f,g,h,i,(c++[i64.wrap ((Int.tmod (i64.wrap (BitVec.ofInt i64.bits m &&& BitVec.ofInt i64.bits 127).toNat) 3)-1)]),(d++[j])))))else(Cq.ret (.inl (i64.wrap (b+1),a,l,e,f,g,h,i,c,(d++[j]))))))else(Cq.ret (.inr (a,l,e,f,g,h,i,c,d)))
def Jo(a:ZM)(n:(Ŀ (Ŀ Za)))(o:(Ŀ Za))(b:Int)(d:Bool):Cq Zj:=
 if d=true then(Cq.next (Jn a o b (0,i64.wrap (1+(i64.wrap (Int.tmod a.kind 13))),[],0,0,0,[],[],[],[])) λp=>match p with|(c,e,f,g,h,i,j,k,l)=>ZlN o c e f g h i j k l)else(if(i64.wrap (1+(i64.wrap (Int.tmod a.kind 13))))=11 then(Cq.bind (xC n 1 (i64.wrap (BitVec.ofInt i64.bits (i64.wrap (BitVec.ofInt i64.bits b &&& BitVec.ofInt i64.bits 7).toNat) &&& BitVec.ofInt i64.bits 3).toNat)) λm=>Cq.ret (Zj.mk (i64.wrap (1+(i64.wrap (Int.tmod a.kind 13)))) [] 0 0 0 [] m [] []))else(if(i64.wrap (1+(i64.wrap (Int.tmod a.kind 13))))=12 then(if(i64.wrap (1+(i64.wrap (Int.tmod a.kind 13))))=12 then(Cq.ret (Zj.mk (i64.wrap (1+(i64.wrap (Int.tmod a.kind 13)))) [] (i64.wrap (BitVec.ofInt i64.bits b &&& BitVec.ofInt i64.bits 7).toNat) 0 0 [] [] [] []))else(Cq.ret (Zj.mk (i64.wrap (1+(i64.wrap (Int.tmod a.kind 13)))) [] 0 0 0 [] [] [] [])))else(if(i64.wrap (1+(i64.wrap (Int.tmod a.kind 13))))=13 then(Cq.ret (Zj.mk (i64.wrap (1+(i64.wrap (Int.tmod a.kind 13)))) [] (i64.wrap (BitVec.ofInt i64.bits b &&& BitVec.ofInt i64.bits 7).toNat) 0 0 [] [] [] []))else(Cq.ret (Zj.mk (i64.wrap (1+(i64.wrap (Int.tmod a.kind 13)))) [] 0 0 0 [] [] [] [])))))
def wZ(a:ZM)(c:(Ŀ (Ŀ Za)))(e:(Ŀ Za))(b:Int)(d:Bool):Cq Zj:=
 if d=true then(Cq.ret (Zj.mk (i64.wrap (1+(i64.wrap (Int.tmod a.kind 13)))) e 0 0 0 [] [] [] []))else(if(i64.wrap (1+(i64.wrap (Int.tmod a.kind 13))))=4 then(Cq.bind (ua a.v 2) λg=>Cq.bind (xB (u8.wrap g)) λh=>Cq.bind (xC c 1 (i64.wrap (BitVec.ofInt i64.bits (i64.wrap (BitVec.ofInt i64.bits b &&& BitVec.ofInt i64.bits 7).toNat) &&& BitVec.ofInt i64.bits 3).toNat)) λi=>Cq.ret (Zj.mk (i64.wrap (1+(i64.wrap (Int.tmod a.kind 13)))) [] 0 0 0 h i [] []))else(if(i64.wrap (1+(i64.wrap (Int.tmod a.kind 13))))=5 then(Cq.bind (ua a.v 3) λf=>Cq.ret (Zj.mk (i64.wrap (1+(i64.wrap (Int.tmod a.kind 13)))) [] (i64.wrap (BitVec.ofInt i64.bits f &&& BitVec.ofInt i64.bits 15).toNat) (i64.wrap ((i64.wrap (BitVec.ofInt i64.bits (i64.wrap (BitVec.ofInt i64.bits b &&& BitVec.ofInt i64.bits 7).toNat) &&& BitVec.ofInt i64.bits 3).toNat)-1)) 0 [] [] [] []))else(if(i64.wrap (1+(i64.wrap (Int.tmod a.kind 13))))=6 then(Cq.ret (Zj.mk (i64.wrap (1+(i64.wrap (Int.tmod a.kind 13)))) [] (i64.wrap (BitVec.ofInt i64.bits b &&& BitVec.ofInt i64.bits 7).toNat) (i64.wrap ((i64.wrap (BitVec.ofInt i64.bits b &&& BitVec.ofInt i64.bits 7).toNat)-(i64.wrap (Int.tdiv (i64.wrap (BitVec.ofInt i64.bits b &&& BitVec.ofInt i64.bits 7).toNat) 3)))) (i64.wrap (Int.tdiv (i64.wrap (BitVec.ofInt i64.bits b &&& BitVec.ofInt i64.bits 7).toNat) 2)) [] [] [] []))else(if(i64.wrap (1+(i64.wrap (Int.tmod a.kind 13))))=7 then(Jo a c e b (decide ((i64.wrap (1+(i64.wrap (Int.tmod a.kind 13))))=7)))else(Jo a c e b (decide ((i64.wrap (1+(i64.wrap (Int.tmod a.kind 13))))=8)))))))
def Eb(a:ZM):Cq Zj:=
 Cq.bind (Lz a.l 2 2 3 6) λb=>Cq.bind (xC b 2 1) λe=>Cq.Λ e 0 λd=>Cq.bind (ua a.v 1) λc=>if(i64.wrap (1+(i64.wrap (Int.tmod a.kind 13))))=1 then(wZ a b d c (decide ((i64.wrap (1+(i64.wrap (Int.tmod a.kind 13))))=1)))else(if(i64.wrap (1+(i64.wrap (Int.tmod a.kind 13))))=2 then(wZ a b d c (decide ((i64.wrap (1+(i64.wrap (Int.tmod a.kind 13))))=2)))else(wZ a b d c (decide ((i64.wrap (1+(i64.wrap (Int.tmod a.kind 13))))=10))))
def Zpv(a:(Ŀ Zj)):Cq (Ŀ Zj):=
 Cq.ret a
def Ql(d:Zs):((Ŀ Zj)×Int)->Cq (Ŀ Zj):=
 Cq.loop λe=>match e with|(a,b)=>if b<(d.l.length:Int)then(if b<4 then(Cq.Λ d.l b λf=>Cq.bind (Eb f) λc=>Cq.ì ((a++[c]).length<=small) (Cq.ret (.inl ((a++[c]),i64.wrap (b+1)))))else(Cq.ret (.inr a)))else(Cq.ret (.inr a))
def AP(a:Zs):Cq (Ŀ Zj):=
 Cq.next (Ql a ([],0)) λb=>match b with|c=>Zpv c
def RI(d:Zd)(c:Zs):Cq (Zd×Int×Int):=
 if(Int.tmod c.fT 2)=0 then(Cq.bind (y3 c) λe=>Cq.bind (yZ c e) λf=>Cq.bind (uh d e f) λa=>if ¬a.2.2=0 then(Cq.ret (d,a.2.1,a.2.2))else(Cq.ret (a.1,a.2.1,a.2.2)))else(Cq.bind (AP c) λg=>Cq.bind (xh d c.id g c.tried) λb=>if ¬b.2=0 then(Cq.ret (d,0,b.2))else(Cq.ret (b.1,0,b.2)))
def Ztf:Cq (Ze×Bool):=
 Cq.ret ((Ze.mk 0 (Zc.mk 0 [] []) (Zb.mk 0 [] []) 0 0 0 false),false)
def Kc(c:Zd)(d:Int):(Int×Ze)->Cq ((Ze×Bool)⊕Ze):=
 Cq.loop λe=>match e with|(a,b)=>if a<(c.t.length:Int)then(Cq.Λ c.t a λf=>if f.id=d then(Cq.Λ c.t a λg=>Cq.ret (.inr (.inl (g,true))))else(Cq.ret (.inl (i64.wrap (a+1),b))))else(Cq.ret (.inr (.inr b)))
def LC(c:Zd)(a:Int):Cq (Ze×Bool):=
 Cq.next (Kc c a (0,(Ze.mk 0 (Zc.mk 0 [] []) (Zb.mk 0 [] []) 0 0 0 false))) λd=>match d with|.inl b=>Cq.ret b|.inr e=>Ztf
def Zs7:Cq Bool:=
 Cq.ret true
def Zs6(b:(Ŀ (Ŀ Za)))(d:Int):Int->Cq (Bool⊕Unit):=
 Cq.loop λe=>match e with|a=>if a<(b.length:Int)then(Cq.Λ b a λf=>Cq.bind (xg f d 64) λc=>if(!c)=true then(Cq.ret (.inr (.inl false)))else(Cq.ret (.inl (i64.wrap (a+1)))))else(Cq.ret (.inr (.inr ())))
def FW(b:(Ŀ (Ŀ Za)))(c:Int):Cq Bool:=
 Cq.next (Zs6 b c 0) λd=>match d with|.inl a=>Cq.ret a|.inr ()=>Zs7
def FL(a:Int):Cq Bool:=
 if 0<=a then(Cq.ret (decide (a<=1000000)))else(Cq.ret false)
def JS(a:Zl):Cq Bool:=
 Cq.bind (uj a.lo) λb=>match b with|false=>(Cq.ret false)|true=>(Cq.bind (uj a.hi) λc=>match c with|false=>(Cq.ret false)|true=>(Cq.bind (vD a.lo a.hi) λd=>Cq.ret (decide (d<=0))))
def vu(c:Zf):Cq Bool:=
 Cq.bind (ZX 0) λa=>Cq.bind (Bh c a) λb=>Cq.ret b
def ZqA:Cq Bool:=
 Cq.ret true
def ZqB(a:Int):Cq (Int⊕(Bool⊕Unit)):=
 Cq.ret (.inl (i64.wrap (a+1)))
def QJ(b:(Ŀ (Ŀ Zl)))(g:Int)(c:Int):Int->Cq (Bool⊕Unit):=
 Cq.loop λh=>match h with|a=>if a<8 then(Cq.Λ b c λi=>Cq.Λ i a λj=>Cq.bind (JS j) λd=>match d with|false=>(Cq.ret (.inr (.inl false)))|true=>(if g<=a then(Cq.Λ b c λk=>Cq.Λ k a λl=>Cq.bind (vu l.lo) λe=>match e with|false=>(Cq.ret (.inr (.inl false)))|true=>(Cq.Λ b c λm=>Cq.Λ m a λn=>Cq.bind (vu n.hi) λf=>if(!f)=true then(Cq.ret (.inr (.inl false)))else(Cq.ret (.inl (i64.wrap (a+1))))))else(Cq.ret (.inl (i64.wrap (a+1))))))else(Cq.ret (.inr (.inr ())))
def Zqz(b:(Ŀ (Ŀ Zl)))(d:Int):Int->Cq (Bool⊕Unit):=
 Cq.loop λe=>match e with|a=>if a<(b.length:Int)then(Cq.next (QJ b d a 0) λf=>match f with|.inl c=>Cq.ret (.inr (.inl c))|.inr ()=>ZqB a)else(Cq.ret (.inr (.inr ())))
def FK(a:(Ŀ (Ŀ Zl)))(c:Int):Cq Bool:=
 if 64<(a.length:Int)then Cq.fail else(Cq.next (Zqz a c 0) λd=>match d with|.inl b=>Cq.ret b|.inr ()=>ZqA)
def ZqD:Cq Bool:=
 Cq.ret true
def ZqC(b:(Ŀ Int)):Int->Cq (Bool⊕Unit):=
 Cq.loop λc=>match c with|a=>if a<(b.length:Int)then(Cq.Λ b a λd=>if d<(-1)then(Cq.ret (.inr (.inl false)))else(Cq.Λ b a λe=>if 1<e then Cq.fail else(Cq.ret (.inl (i64.wrap (a+1))))))else(Cq.ret (.inr (.inr ())))
def Le(b:(Ŀ Int)):Cq Bool:=
 Cq.next (ZqC b 0) λc=>match c with|.inl a=>Cq.ret a|.inr ()=>ZqD
def EB(a:Zj)(c:Bool):Cq Bool:=
 if c=true then(if(a.p.length:Int)=0 then(if(a.l.length:Int)=0 then(if(a.o.length:Int)=0 then(if(a.s.length:Int)=0 then(if(a.b.length:Int)=0 then(if a.d=0 then(if a.r=0 then(Cq.bind (FL a.n) λe=>Cq.ret e)else(Cq.ret false))else(Cq.ret false))else(Cq.ret false))else(Cq.ret false))else(Cq.ret false))else(Cq.ret false))else(Cq.ret false))else(Cq.ret false)
def EC(e:Zc)(a:Zj)(c:Bool)(h:Bool)(f:Bool):Cq Bool:=
 if f=true then(if(a.p.length:Int)=0 then(if(a.l.length:Int)=0 then(if(a.o.length:Int)=0 then(if(a.s.length:Int)=0 then(if(a.b.length:Int)=0 then(Cq.ret c)else(Cq.ret false))else(Cq.ret false))else(Cq.ret false))else(Cq.ret false))else(Cq.ret false))else(if a.kind=4 then(if(a.p.length:Int)=0 then(if(a.s.length:Int)=0 then(if(a.b.length:Int)=0 then(if c=true then(Cq.bind (yU a.o) λi=>match i with|false=>(Cq.ret false)|true=>(if(a.l.length:Int)<=64 then(Cq.bind (FW a.l e.n) λj=>Cq.ret j)else(Cq.ret false)))else(Cq.ret false))else(Cq.ret false))else(Cq.ret false))else(Cq.ret false))else(if a.kind=5 then(if(a.p.length:Int)=0 then(if(a.l.length:Int)=0 then(if(a.o.length:Int)=0 then(if(a.s.length:Int)=0 then(if(a.b.length:Int)=0 then(if a.r=0 then(if(-1)<=a.d then(if a.d<=e.n then(Cq.bind (FL a.n) λk=>Cq.ret k)else(Cq.ret false))else(Cq.ret false))else(Cq.ret false))else(Cq.ret false))else(Cq.ret false))else(Cq.ret false))else(Cq.ret false))else(Cq.ret false))else(if a.kind=6 then(if(a.p.length:Int)=0 then(if(a.l.length:Int)=0 then(if(a.o.length:Int)=0 then(if(a.s.length:Int)=0 then(if(a.b.length:Int)=0 then(Cq.bind (FL a.n) λm=>match m with|false=>(Cq.ret false)|true=>(if 0<=a.r then(if a.r<=a.d then(Cq.ret (decide (a.d<=a.n)))else(Cq.ret false))else(Cq.ret false)))else(Cq.ret false))else(Cq.ret false))else(Cq.ret false))else(Cq.ret false))else(Cq.ret false))else(if a.kind=7 then(if(a.p.length:Int)=0 then(if(a.l.length:Int)=0 then(if(a.o.length:Int)=0 then(if(a.s.length:Int)=0 then(if c=true then(Cq.bind (FK a.b e.n) λq=>Cq.ret q)else(Cq.ret false))else(Cq.ret false))else(Cq.ret false))else(Cq.ret false))else(Cq.ret false))else(if a.kind=8 then(if h=true then(if(a.l.length:Int)=0 then(if(a.o.length:Int)=0 then(if c=true then(Cq.bind (FK a.b e.n) λt=>match t with|false=>(Cq.ret false)|true=>(if(a.s.length:Int)=(a.b.length:Int)then(Cq.bind (Le a.s) λu=>Cq.ret u)else(Cq.ret false)))else(Cq.ret false))else(Cq.ret false))else(Cq.ret false))else(Cq.ret false))else(if a.kind=11 then(if(a.p.length:Int)=0 then(if(a.o.length:Int)=0 then(if(a.s.length:Int)=0 then(if(a.b.length:Int)=0 then(if c=true then(if(a.l.length:Int)<=64 then(Cq.bind (FW a.l e.n) λg=>Cq.ret g)else(Cq.ret false))else(Cq.ret false))else(Cq.ret false))else(Cq.ret false))else(Cq.ret false))else(Cq.ret false))else(if a.kind=12 then(EB a (decide (a.kind=12)))else(EB a (decide (a.kind=13))))))))))
def AE(d:Zc)(a:Zj)(c:Bool)(e:Bool)(f:Bool):Cq Bool:=
 if f=true then(if e=true then(if(a.l.length:Int)=0 then(if(a.o.length:Int)=0 then(if(a.s.length:Int)=0 then(if(a.b.length:Int)=0 then(Cq.ret c)else(Cq.ret false))else(Cq.ret false))else(Cq.ret false))else(Cq.ret false))else(Cq.ret false))else(if a.kind=3 then(EC d a c e (decide (a.kind=3)))else(EC d a c e (decide (a.kind=9))))
def wW(b:Zc)(a:Zj)(c:Bool):Cq Bool:=
 Cq.bind (xg a.p b.n 12) λd=>if a.kind=1 then(AE b a c d (decide (a.kind=1)))else(if a.kind=2 then(AE b a c d (decide (a.kind=2)))else(AE b a c d (decide (a.kind=10))))
def FJ(b:Zc)(a:Zj):Cq Bool:=
 Cq.bind (A0 b) λc=>if(!c)=true then Cq.fail else(if a.n=0 then(if a.d=0 then(wW b a (decide (a.r=0)))else(wW b a false))else(wW b a false))
def Qi(a:Zj)(c:Bool)(b:Bool):Cq (Int×Int):=
 if b=true then(Cq.ret (0,0))else(if c=true then(if a.kind=13 then(Cq.ret (a.n,(-1)))else(Cq.ret (0,(-1))))else(Cq.ret (0,(-1))))
def Ep(a:Zj)(c:Bool)(d:Bool):Cq (Int×Int):=
 if d=true then(Cq.ret ((a.b.length:Int),(a.b.length:Int)))else(if c=true then(Qi a c (decide (a.kind=9)))else(Qi a c false))
def Jw(a:Zj)(b:Bool)(c:Bool):Cq (Int×Int):=
 if c=true then(Cq.ret (a.r,a.r))else(if b=true then(if a.kind=7 then(Ep a b true)else(Ep a b (decide (a.kind=8))))else(Ep a b false))
def Er(a:Zj)(b:Bool)(c:Bool):Cq (Int×Int):=
 if c=true then(Cq.ret (0,a.n))else(if b=true then(Jw a b (decide (a.kind=6)))else(Jw a b false))
def Jx(a:Zj)(d:Bool)(b:Bool)(c:Bool):Cq (Int×Int):=
 if c=true then(Cq.ret (a.n,a.n))else(if d=true then(Er a b (decide (a.kind=12)))else(if b=true then(Er a b (decide (a.kind=12)))else(Er a b false)))
def yG(a:Zj)(b:Bool)(c:Bool):Cq (Int×Int):=
 if b=true then(Jx a b c (decide (a.kind=6)))else(Jx a b c false)
def Ks(a:Zb)(b:Zj):Cq (Int×Int):=
 if a.kind=8 then(yG b (decide (a.kind=5)) true)else(yG b (decide (a.kind=5)) (decide (a.kind=6)))
def ZsN:Cq Bool:=
 Cq.ret true
def ZsM(b:(Ŀ (Fin 8->Int)))(c:(Ŀ (Fin 8->Int))):Int->Cq (Bool⊕Unit):=
 Cq.loop λd=>match d with|a=>if a<(b.length:Int)then(Cq.Λ b a λe=>Cq.Λ c a λf=>if ¬e=f then(Cq.ret (.inr (.inl false)))else(Cq.ret (.inl (i64.wrap (a+1)))))else(Cq.ret (.inr (.inr ())))
def FR(a:(Ŀ (Fin 8->Int)))(b:(Ŀ (Fin 8->Int))):Cq Bool:=
 if ¬(a.length:Int)=(b.length:Int)then(Cq.ret false)else(Cq.next (ZsM a b 0) λd=>match d with|.inl c=>Cq.ret c|.inr ()=>ZsN)
def Ka(d:Zc)(b:Zb)(a:Zj):Cq Bool:=
 Cq.bind (tE b.p a.p) λc=>if b.kind=1 then(if a.kind=1 then(Cq.ret c)else(if a.kind=2 then(Cq.ret c)else(Cq.ret false)))else(if b.kind=2 then(if a.kind=3 then(Cq.ret true)else(if(d.δ.length:Int)=0 then(if a.kind=2 then(Cq.bind (ZX 1) λe=>Cq.bind (Ez e) λf=>Cq.bind (tE a.p f) λg=>Cq.ret g)else(Cq.ret false))else(Cq.ret false)))else(if b.kind=3 then(if a.kind=4 then(Cq.bind (FR b.o a.o) λh=>Cq.ret h)else(Cq.ret false))else(if b.kind=4 then(Cq.ret (decide (a.kind=5)))else(if b.kind=5 then(Cq.ret (decide (a.kind=6)))else(if b.kind=6 then(Cq.ret (decide (a.kind=7)))else(if b.kind=7 then(if a.kind=8 then(Cq.ret c)else(Cq.ret false))else(if b.kind=8 then(if a.kind=9 then(Cq.ret true)else(if a.kind=6 then(Cq.ret true)else(if a.kind=13 then(Cq.ret (decide (1<=a.n)))else(Cq.ret false))))else(if b.kind=9 then(if a.kind=10 then(Cq.ret c)else(Cq.ret false))else(if b.kind=10 then(Cq.ret (decide (a.kind=11)))else(Cq.ret false))))))))))
def Et(b:Int×Int)(a:Ze):Cq Ze:=
 if 0<=b.2 then(if a.high<0 then(Cq.ret (Ze.mk a.id a.k a.q a.ψ (if a.low<b.1 then b.1 else a.low) b.2 a.done))else(if b.2<a.high then(Cq.ret (Ze.mk a.id a.k a.q a.ψ (if a.low<b.1 then b.1 else a.low) b.2 a.done))else(Cq.ret (Ze.mk a.id a.k a.q a.ψ (if a.low<b.1 then b.1 else a.low) a.high a.done))))else(Cq.ret (Ze.mk a.id a.k a.q a.ψ (if a.low<b.1 then b.1 else a.low) a.high a.done))
def Kt(a:Ze)(c:Zj):Cq Ze:=
 Cq.bind (Ks a.q c) λb=>if a.done=true then(Et b (Ze.mk a.id a.k a.q a.ψ a.low a.high true))else(Cq.bind (Ka a.k a.q c) λd=>Et b (Ze.mk a.id a.k a.q a.ψ a.low a.high d))
def Zq1(b:(Ŀ Ze))(a:Int):Cq (Zd×Int):=
 Cq.ret ((Zd.mk b a),0)
def EE(c:Int)(b:(Ŀ Ze))(a:Int)(d:Ze):Cq ((Int×(Ŀ Ze)×Int)⊕(((Ŀ Ze)×Int))):=
 Cq.ì ((b++[d]).length<=small) (Cq.ret (.inl (i64.wrap (c+1),(b++[d]),a)))
def JL(f:Int)(d:Int)(c:Int)(e:(Ŀ Ze))(b:Int)(a:Ze):Cq ((Int×(Ŀ Ze)×Int)⊕(((Ŀ Ze)×Int))):=
 if a.id=f then(EE c e b (Ze.mk a.id a.k a.q (if a.ψ<(i64.wrap (d+1))then(i64.wrap (d+1))else a.ψ) a.low a.high a.done))else(EE c e b a)
def Qy(c:(Ŀ Zj))(d:Ze×Bool):(Int×Ze)->Cq Ze:=
 Cq.loop λg=>match g with|(a,b)=>if a<(c.length:Int)then(Cq.bind (wX b.k d.1.k) λe=>if e=true then(Cq.Λ c a λh=>Cq.bind (Kt b h) λf=>Cq.ret (.inl (i64.wrap (a+1),f)))else(Cq.ret (.inr b)))else(Cq.ret (.inr b))
def ZqZ(c:Zd)(e:Int)(f:(Ŀ Zj))(g:Int)(h:Ze×Bool):(Int×(Ŀ Ze)×Int)->Cq (((Ŀ Ze)×Int)):=
 Cq.loop λj=>match j with|(b,d,a)=>if b<(c.t.length:Int)then(Cq.Λ c.t b λk=>Cq.next (Qy f h (0,k)) λl=>match l with|i=>JL e g b d a i)else(Cq.ret (.inr (d,a)))
def Zq2(b:Zd)(c:Int)(d:(Ŀ Zj))(e:Int)(g:Ze×Bool):Cq (Zd×Int):=
 Cq.next (ZqZ b c d e g (0,[],b.next)) λh=>match h with|(f,a)=>Zq1 f a
def Zq0(b:(Ŀ Zj))(d:Ze×Bool):(Int×Zd)->Cq ((Zd×Int)⊕Zd):=
 Cq.loop λf=>match f with|(a,c)=>if a<(b.length:Int)then(Cq.Λ b a λg=>Cq.bind (FJ d.1.k g) λe=>if(!e)=true then(Cq.ret (.inr (.inl ((Zd.mk [] 0),1))))else(Cq.ret (.inl (i64.wrap (a+1),c))))else(Cq.ret (.inr (.inr c)))
def Qz(c:Zd)(d:Int)(a:(Ŀ Zj))(e:Int)(b:Ze×Bool)(f:Zd):Cq (Zd×Int):=
 Cq.next (Zq0 a b (0,f)) λh=>match h with|.inl g=>Cq.ret g|.inr i=>Zq2 c d a e b
def KX(b:Zd)(c:Int)(e:(Ŀ Zj))(a:Int):Cq (Zd×Int):=
 Cq.bind (LC b c) λd=>if(!d.2)=true then(Cq.ret ((Zd.mk [] 0),380))else(if a<0 then(Cq.ret ((Zd.mk [] 0),1))else(if 12<a then(Cq.ret ((Zd.mk [] 0),1))else(Qz b c e a d (Zd.mk [] 0))))
def LB(f:Zd)(c:Zs):Cq (Zd×Int×Int):=
 if(Int.tmod c.fT 2)=0 then(Cq.bind (y3 c) λg=>Cq.bind (yZ c g) λh=>Cq.bind (A2 5 f g h) λa=>if ¬a.e=0 then(Cq.ret (f,0,a.e))else(Cq.ret (a.b,a.id,0)))else(Cq.bind (AP c) λi=>Cq.bind (KX f c.id i c.tried) λd=>if ¬d.2=0 then(Cq.ret (f,0,d.2))else(Cq.ret (d.1,0,0)))
def Zq4(a:(Ŀ Zb)):Cq (Ŀ Zb):=
 Cq.ret a
def Zq3(e:Ze)(b:(Ŀ Zb)):((Ŀ Zb)×Int)->Cq (Ŀ Zb):=
 Cq.loop λf=>match f with|(a,d)=>if d<(b.length:Int)then(Cq.Λ b d λg=>Cq.bind (A3 e.k g) λc=>Cq.ì ((a++[c.q]).length<=small) (Cq.ret (.inl ((a++[c.q]),i64.wrap (d+1)))))else(Cq.ret (.inr a))
def ZvW(b:Ze):Cq (Ŀ Zb):=
 Cq.bind (FM b.q) λc=>Cq.next (Zq3 b c ([],0)) λd=>match d with|a=>Zq4 a
def Ztg(a:Zd):Cq Zd:=
 Cq.ret a
def Rk(c:(Ŀ Zs)):(Int×Zd)->Cq Zd:=
 Cq.loop λe=>match e with|(b,a)=>if b<(c.length:Int)then(if b<6 then(Cq.Λ c b λf=>Cq.bind (LB a f) λd=>Cq.ret (.inl (i64.wrap (b+1),d.1)))else(Cq.ret (.inr a)))else(Cq.ret (.inr a))
def LD(c:(Ŀ Zs)):Cq Zd:=
 Cq.bind (UA) λa=>Cq.next (Rk c (0,a)) λd=>match d with|b=>Ztg b
def Pt(d:Bool)(m:Zc)(b:Zb)(c:Zd×Int×Int)(e:(Ŀ Za)×Int)(f:Zc):Cq Bool:=
 Cq.bind (wT m) λg=>Cq.bind (wT f) λh=>Cq.bind (Z8 b.p g.2) λi=>Cq.bind (Z8 e.1 h.2) λj=>Cq.bind (uh c.1 f (Zb.mk b.kind e.1 b.o)) λa=>if ¬a.2.2=0 then(Cq.ret false)else(Cq.bind (tE i.1 j.1) λk=>if k=true then(if a.2.1=c.2.1 then(Cq.bind (Bf c.1 a.1) λl=>match l with|false=>(Cq.ret false)|true=>(Cq.ret d))else(Cq.ret false))else(Cq.ret d))
def Pu(g:Int)(j:Bool)(a:Zc)(d:Zb)(b:Zd×Int×Int):Cq Bool:=
 Cq.bind (Fl a.n) λc=>Cq.ì ((c.length:Int)≠0) (Cq.Λ c (Int.tmod (i64.wrap g) (c.length:Int)) λl=>Cq.bind (Z8 d.p l) λm=>Cq.bind (AF a l) λe=>Cq.bind (xy b.1 b.2.1) λf=>Cq.bind (wT e) λh=>if f.2=true then(Cq.bind (wX f.1.k h.1) λi=>if(!i)=true then(Cq.ret false)else(Pt j a d b m e))else(Cq.ret false))
def JF(f:(Ŀ Zs))(b:Zs)(g:Int):Cq Bool:=
 Cq.bind (JG) λa=>if(!a)=true then(Cq.ret false)else(Cq.bind (LD f) λh=>Cq.bind (y3 b) λc=>Cq.bind (yZ b c) λd=>Cq.bind (uh h c d) λe=>if ¬e.2.2=0 then(Cq.ret a)else(if d.kind=3 then(Cq.ret a)else(Pu g a c d e)))
end Go.EL

namespace Go.EL
open Go.IntKind (i8 i16 i32 i64 u8 u16 u32 u64)
open Go
namespace Cq
variable {α β σ ρ:Type}
theorem wp_ret{a:α}{p:α->Prop}:(Cq.ret a).wp p↔p a:=Iff.rfl
theorem Zm{q:Prop}[Decidable q]{c d:Cq α}{p:α->Prop}:(if q then c else d).wp p↔if q then c.wp p else d.wp p:=by split<;>rfl
theorem Zy8{A:σ->Prop}{Φ:ρ->Prop}{s:σ}:Out A Φ (.inl s)↔A s:=Iff.rfl
theorem Γ.then{c:Cq α}{a:α}(h:c.Γ a){p:α->Prop}(hp:p a):c.wp p:=c.mono (λb e=>by rw[e];exact hp) h
end Cq
theorem wrap64{x:Int}(h:-9223372036854775808<=x/\x<=9223372036854775807):i64.wrap x=x:=IntWalk.i64_in _ h
theorem mR{a:Fin 8->Int}{i:Int}(h:0<=i/\i<8):Η a i=a ⟨i.toNat,ŉ⟩:=zg a ŉ
theorem Jq(a b:M):(yJ a b).Γ (Ý a b):=by
 unfold yJ;by_cases h:a=b
 .rw[ą h];subst h;exact(A5 a).symm
 rw[ā h];have n:∀k:Nat,k<=8->(∀j:Fin 8,j.val<k->a j=b j)->k<8:=λk l g=>by
  rcases Ş k 8 with q|q
  .exact q
  exact absurd (funext λj=>g j ŉ) h
 refine Cq.LN (I:=λi:Int=>0<=i/\i<8/\∀j:Fin 8,(j.val:Int)<i->a j=b j) (m:=λi=>(8-i).toNat) (λi hi=>?_) 0 ⟨ŉ,ŉ,λj g=>by omega⟩;obtain⟨c,d,g⟩:=hi;refine⟨⟨c,d⟩,⟨c,d⟩,?_⟩;rw[Cq.Zm,mR ⟨c,d⟩,mR ⟨c,d⟩];split
 .rename_i e;have kg:∀j:Fin 8,(j.val:Int)<i+1->a j=b j:=λj f=>by
   by_cases h2:(j.val:Int)<i
   .exact g j h2
   have:j=⟨i.toNat,ŉ⟩:=abd ab0;rw[this];exact e
  have:=n (i+1).toNat ŉ (λj f=>kg j ŉ);rw[Cq.wp_ret,Cq.Zy8,wrap64 ŉ];exact⟨⟨ŉ,ŉ,kg⟩,ŉ⟩
 rename_i e;refine⟨⟨c,d⟩,⟨c,d⟩,?_⟩;rw[Cq.Zm,mR ⟨c,d⟩,mR ⟨c,d⟩];have l:i.toNat<8:=ŉ;split
 .rename_i p;exact(UL a b l (λj f=>g j ŉ) p).symm
 rename_i p;exact(UK a b l (λj f=>g j ŉ) ŉ).symm
end Go.EL

namespace Go.EL
open Go.IntKind (i8 i16 i32 i64 u8 u16 u32 u64)
open Go
instance MY:DecidableEq Zg:=λ⟨a1,a2⟩ ⟨a,c⟩=>decidable_of_iff (a1=a/\a2=c) ß
instance MZ:DecidableEq Zf:=λ⟨a1,a2⟩ ⟨a,c⟩=>decidable_of_iff (a1=a/\a2=c) ß
def ý(n:Int):Zf:=⟨⟨decide (n<0),if n=0 then[]else[(n.natAbs:Int)]⟩,⟨false,[1]⟩⟩
def ã(l h:Int)(p:Int->Bool):Bool:=(List.range (h-l+1).toNat).all λk=>p (l+(k:Int))
theorem Zq{l h:Int}{p:Int->Bool}(a:ã l h p=true){x:Int}(c:l<=x)(h2:x<=h):p x=true:=by have:=Ć.1 a (x-l).toNat (ĺ.2 ŉ);rwa [show l+((x-l).toNat:Int)=x by omega]at this
def runs{α:Type}[DecidableEq α](n:Nat)(c:Cq α)(a:α):Bool:=decide (c.ev n=some a)
theorem Zr{α:Type}[DecidableEq α]{n:Nat}{c:Cq α}{a:α}(h:runs n c a=true):c.Γ a:=Cq.Γ.mf n (ĥ h)
theorem Zxz:(ã (-8) 8 λn=>runs 20 (ZX n) (ý n))=true:=by decide +kernel
theorem Zzb:(ã (-12) 12 λa=>ã (-3) 3 λb=>runs 30 (vC (ý a) (ý b)) (ý (a+b)))=true:=by decide +kernel
theorem ZzU:(ã (-3) 3 λa=>runs 30 (rj (ý a) (ý 1)) (ý a))=true:=by decide +kernel
theorem FY:(ã (-15) 15 λa=>runs 30 (oy (ý a)) (if a<0 then -1 else if a=0 then 0 else 1))=true:=by decide +kernel
theorem Zxv:(ã (-15) 15 λa=>a == 0 || runs 30 (uj (ý a)) true)=true:=by decide +kernel
theorem Sr:(ã (-12) 12 λa=>a == 0 || runs 30 (ZH (ý a)) (if a<0 then -1 else if a=0 then 0 else 1))=true:=by decide +kernel
theorem ZvI:(ã (-12) 12 λa=>a == 0 || runs 30 (ZZ (ý a)) true)=true:=by decide +kernel
theorem Zyz:(ã (-12) 12 λa=>a == 0 || ã (-12) 12 λb=>b == 0 || runs 30 (vh (ý a) (ý b)) (if a<b then -1 else if a=b then 0 else 1))=true:=by decide +kernel
end Go.EL

namespace Go.EL
open Go.IntKind (i8 i16 i32 i64 u8 u16 u32 u64)
open Go Go.RowKit
def lS(k:Nat)(f a:M):M:=λi=>if i.val<k then f i else a i
theorem TK{k:Nat}(f a:M)(h:k<8):ζ (lS k f a) k (f ⟨k,h⟩)=lS (k+1) f a:=by
 funext i;unfold ζ lS;by_cases e:i.val=k
 .have:i=⟨k,h⟩:=abd e;subst this;simp
 have c:(i.val<k+1)=(i.val<k):=by apply propext;omega
 simp[e,c]
theorem Vp{k:Nat}(f a:M)(h:k<8):lS k f a ⟨k,h⟩=a ⟨k,h⟩:=by unfold lS;simp
theorem TL(f a:M):lS 0 f a=a:=by funext i;simp[lS]
theorem U7{k:Nat}(f a:M)(h:¬k<8):lS k f a=f:=by funext i;have:i.val<k:=ŉ;simp[lS,this]
theorem ZxR{p:Fin 8->Prop}{k:Nat}(a:∀i:Fin 8,i.val<k->p i)(h:k<8)(c:p ⟨k,h⟩):∀i:Fin 8,i.val<k+1->p i:=λi hi=>by
 by_cases e:i.val=k
 .have:i=⟨k,h⟩:=abd e;rw[this];exact c
 exact a i ŉ
def Ok(a:M):Prop:=∀i,0<=a i/\a i<=65535
def p2:Nat->Int
 |0=>1
 |k+1=>2*p2 k
theorem ZBb:∀{k:Nat},k<=8->1<=p2 k/\p2 k<=256
 |0,_=>by decide
 |1,_=>by decide
 |2,_=>by decide
 |3,_=>by decide
 |4,_=>by decide
 |5,_=>by decide
 |6,_=>by decide
 |7,_=>by decide
 |8,_=>by decide
 |k+9,h=>by omega
theorem My{k:Nat}(h:k<8):1<=p2 k/\p2 k<=128:=by have:=ZBb (k:=k+1) ŉ;simp only[p2]at this;omega
theorem Zyj{k:Nat}(h:k<8):u8.wrap (1*2 ^ (min (k:Int).toNat u8.bits))=p2 k:=by
 match k,h with
 |0,_=>decide|1,_=>decide|2,_=>decide|3,_=>decide|4,_=>decide|5,_=>decide|6,_=>decide|7,_=>decide
theorem Zz0{k:Nat}(h:k<8):u8.wrap (p2 k)=p2 k:=by
 match k,h with
 |0,_=>decide|1,_=>decide|2,_=>decide|3,_=>decide|4,_=>decide|5,_=>decide|6,_=>decide|7,_=>decide
def Ü(a:M):Nat->Int
 |0=>0
 |k+1=>Ü a k+(if h:k<8 then(if 0<a ⟨k,h⟩then p2 k else 0)else 0)
def jE(a:M):Int:=Ü a 8
theorem AV(a:M):∀k:Nat,0<=Ü a k/\Ü a k<p2 k
 |0=>by simp[Ü,p2]
 |k+1=>by
  have c:=AV a k;simp only[Ü,p2];split
  .split<;>omega
  omega
theorem Sj(a:M){k:Nat}(h:k<8)(c:0<a ⟨k,h⟩):Ü a k+p2 k=Ü a (k+1):=by simp[Ü,h,c]
theorem Sv(a:M){k:Nat}(h:k<8)(c:¬0<a ⟨k,h⟩):Ü a k=Ü a (k+1):=by simp[Ü,h,c]
theorem Zw3:∀k:Fin 8,∀s:Fin 128,s.val<2 ^ k.val->u8.wrap (BitVec.ofInt u8.bits (s.val:Int) ||| BitVec.ofInt u8.bits (p2 k.val)).toNat=s.val+p2 k.val:=by decide +kernel
theorem zn:∀k:Nat,p2 k=((2 ^ k:Nat):Int)
 |0=>rfl
 |k+1=>by rw[p2,zn k,Nat.pow_succ];omega
theorem ZBa{k:Nat}(h:k<8){s:Int}(a:0<=s)(c:s<p2 k):u8.wrap (BitVec.ofInt u8.bits s ||| BitVec.ofInt u8.bits (p2 k)).toNat=s+p2 k:=by obtain⟨n,rfl⟩:=aas a;have h2:=My h;rw[zn]at c;exact Zw3 ⟨k,h⟩ ⟨n,by rw[zn]at h2;omega⟩ ab0
theorem ZAo{k:Nat}(h:k<8){s:Int}(a:0<=s)(c:s<p2 k):u8.wrap (s+p2 k)=s+p2 k:=by have h2:=My h;simp only[IntKind.wrap,IntKind.bits,IntKind.signed,Ŷ,ś,aaK];omega
theorem Cq.Zo{σ ρ:Type}{step:σ->Cq (σ⊕ρ)}{Φ:ρ->Prop}(n:Nat)(I:Nat->σ->Prop)(h:∀k s,k<n->I k s->(step s).wp (Out (λs'=>I (k+1) s') Φ))(a:∀s,I n s->(step s).wp (Out (λ_=>False) Φ)):
  ∀{s:σ},I 0 s->(Cq.loop step s).wp Φ:=by
 have key:∀d k s,k+d=n->I k s->(Cq.loop step s).wp Φ:=by
  intro d;induction d with
  |zero=>intro k s e c;rw[ek]at e;subst e;exact Cq.Zt ((step s).mono (Out.mono (λ_ h=>h.elim) (λ_ x=>x)) (a s c))
  |succ d f=>intro k s e c;exact Cq.Zt ((step s).mono (Out.mono (λs' h'=>f (k+1) s' ŉ h') (λ_ x=>x)) (h k s ŉ c))
 exact λ{s} c=>key n 0 s ŉ c
theorem χ{k:Nat}(h:k<1000000000000):i64.wrap ((k:Int)+1)=((k+1:Nat):Int):=by rw[wrap64 ŉ];simp
theorem Ξ{α:Type}{l:Ŀ α}{k:Nat}(h:k<l.length):(0:Int)<=(k:Int)/\l[(k:Int).toNat]?=some l[k]:=⟨ŉ,by simp[h]⟩
theorem Õ{a:M}{k:Nat}(h:k<8):Η a (k:Int)=a ⟨k,h⟩:=by rw[mR ŉ];rfl
theorem Ztn(m:M):(Jr m).Γ (jE m):=by
 show(Cq.loop _ _).wp _;refine Cq.Zo 8 (λk s=>s=(Ü m k,(k:Int))) (λk s a c=>?_) (λs c=>?_) rfl
 .subst c;refine Cq.wp.yes (p:=(k:Int)<8) ŉ ?_;refine⟨ŉ,?_⟩;rw[Cq.Zm,Õ a];have d:=AV m k;split
  .rename_i h;refine⟨ŉ,?_⟩;show _=_;rw[χ ŉ,Zyj a,ZBa a d.1 d.2,Sj m a h]
  rename_i h;show _=_;rw[χ ŉ,Sv m a h]
 subst c;refine Cq.wp.no (p:=((8:Nat):Int)<8) ŉ ?_;rfl
theorem Az(a b:M):(xA a b).Γ (Ý a b):=by
 refine Cq.Zo 8 (λk s=>s=(k:Int)/\∀i:Fin 8,i.val<k->a i=b i) (λk s c d=>?_) (λs d=>?_) ⟨rfl,λi hi=>by omega⟩
 .obtain⟨rfl,hi⟩:=d;rw[Cq.Zm,ą ŉ];refine⟨ŉ,ŉ,?_⟩;rw[Cq.Zm,Õ c,Õ c];split
  .rename_i h;show _=_;exact(UL a b c hi h).symm
  rename_i h;refine⟨ŉ,ŉ,?_⟩;rw[Cq.Zm];split
  .rename_i h2;show _=_;exact(UK a b c hi h2).symm
  exact⟨χ ŉ,ZxR hi c ŉ⟩
 obtain⟨rfl,hi⟩:=d;rw[Cq.Zm,ā ŉ];show _=_;exact(UJ a b (λi=>hi i i.isLt)).symm
theorem ZsJ{i:Nat}(hi:i<8):(Me (i:Int)).Γ (p2 i):=by
 refine Cq.Zo i (λk s=>s=(p2 k,(k:Int))) (λk s c a=>?_) (λs a=>?_) rfl
 .subst a;show(if(k:Int)<(i:Int)then _ else _:Cq _).wp _;have:=My (k:=k) ŉ;rw[Cq.Zm,ą ŉ];show _=_;rw[χ ŉ,wrap64 ŉ];rfl
 subst a;refine Cq.wp.no (p:=(i:Int)<(i:Int)) ŉ ?_;exact Zz0 hi
theorem ZmE(m:M):(J7 m).Γ (jE m):=by
 refine Cq.Zo 8 (λk s=>s=(Ü m k,(k:Int))) (λk s a c=>?_) (λs c=>?_) rfl
 .subst c;have d:=AV m k;refine Cq.wp.yes (p:=(k:Int)<8) ŉ ?_;refine⟨ŉ,?_⟩;rw[Cq.Zm,Õ a];split
  .rename_i hp;refine⟨_,ZsJ a,?_⟩;show _=_;rw[χ ŉ,ZAo a d.1 d.2,Sj m a hp]
  rename_i hp;show _=_;rw[χ ŉ,Sv m a hp]
 subst c;refine Cq.wp.no (p:=((8:Nat):Int)<8) ŉ ?_;rfl
theorem Qg{m:M}(h:Ok m):(FG m).Γ true:=by
 refine Cq.Zo 8 (λk s=>s=(k:Int)) (λk s c a=>?_) (λs a=>?_) rfl
 .subst a;have:=h ⟨k,c⟩;rw[Cq.Zm,ą ŉ];refine⟨ŉ,?_⟩;rw[Cq.Zm,Õ c,ā ŉ];refine⟨ŉ,?_⟩;rw[Cq.Zm,ā ŉ];exact χ ŉ
 subst a;rw[Cq.Zm,ā ŉ];rfl
theorem Tc{m:M}(h:Ok m):(Ek m).Γ true:=by
 refine Cq.Zo 8 (λk s=>s=(k:Int)) (λk s c a=>?_) (λs a=>?_) rfl
 .subst a;have:=h ⟨k,c⟩;refine Cq.wp.yes (p:=(k:Int)<8) ŉ ?_;refine⟨ŉ,?_⟩;rw[Cq.Zm,Õ c,ā ŉ,Cq.Zm,ā ŉ];exact χ ŉ
 subst a;refine Cq.wp.no (p:=((8:Nat):Int)<8) ŉ ?_;rfl
def fC(m:M):Nat->Int
 |0=>0
 |k+1=>fC m k+(if h:k<8 then m ⟨k,h⟩else 0)
def fG(m:M):Int:=fC m 8
theorem FQ{m:M}(h:Ok m):∀k:Nat,0<=fC m k/\fC m k<=65535*k
 |0=>by simp[fC]
 |k+1=>by
  have c:=FQ h k;simp only[fC];split
  .rename_i a;have:=h ⟨k,a⟩;omega
  omega
theorem ZnH{m:M}(h:Ok m):(Kp m).Γ (fG m):=by
 refine Cq.Zo 8 (λk s=>s=(fC m k,(k:Int))) (λk s a c=>?_) (λs c=>?_) rfl
 .subst c;have d:=FQ h k;have h2:=h ⟨k,a⟩;refine Cq.wp.yes (p:=(k:Int)<8) ŉ ?_;refine⟨ŉ,?_⟩;show _=_;rw[χ ŉ,Õ a,wrap64 ŉ,fC,ŷ a]
 subst c;refine Cq.wp.no (p:=((8:Nat):Int)<8) ŉ ?_;rfl
theorem ZuI{m:M}(h:Ok m):(Jk m).Γ (fG m):=by
 refine Cq.Zo 8 (λk s=>s=(fC m k,(k:Int))) (λk s a c=>?_) (λs c=>?_) rfl
 .subst c;have d:=FQ h k;have h2:=h ⟨k,a⟩;refine Cq.wp.yes (p:=(k:Int)<8) ŉ ?_;refine⟨ŉ,?_⟩;show _=_;rw[χ ŉ,Õ a,wrap64 ŉ,fC,ŷ a]
 subst c;refine Cq.wp.no (p:=((8:Nat):Int)<8) ŉ ?_;rfl
def mulM(a b:M):M:=λi=>a i+b i
theorem QO{a b:M}(f:Ok a)(g:Ok b)(d:Ok (mulM a b)):(Mf a b).Γ (mulM a b,0):=by
 show(Cq.next _ _).wp _;refine Cq.Zo 8 (λk s=>s=((k:Int),lS k (mulM a b) a)) (λk s c e=>?_) (λs e=>?_) (by rw[TL];rfl)
 .subst e;have h:=f ⟨k,c⟩;have h2:=g ⟨k,c⟩;rw[Cq.Zm,ą ŉ];refine⟨ŉ,ŉ,ŉ,?_⟩;show _=_;rw[χ ŉ,Õ c,Õ c,Vp,wrap64 ŉ];exact đ (Prod.mk _) (TK (mulM a b) a c)
 subst e;rw[Cq.Zm,ā ŉ,U7 _ _ ŉ];exact⟨true,Qg d,rfl⟩
end Go.EL

namespace Go.EL
open Go.IntKind (i8 i16 i32 i64 u8 u16 u32 u64)
open Go Go.RowKit
theorem ue{c:Zf}(h:fo c=true):∃n:Int,c=ý n/\n≠0/\-12<=n/\n<=12:=by
 obtain⟨⟨e,i⟩,⟨f,dm⟩⟩:=c;unfold fo at h;dsimp only at h;split at h
 .rename_i w d;simp only[Ĉ,Ő,Ę]at h;obtain⟨⟨⟨a,h2⟩,h3⟩,g⟩:=h;subst a h2;cases e with
  |true=>
   refine⟨-w,?_,ŉ,ŉ,ŉ⟩;unfold ý;rw[ā ŉ,Ă ŉ,show((-w).natAbs:Int)=w by omega]
  |false=>
   refine⟨w,?_,ŉ,ŉ,ŉ⟩;unfold ý;rw[ā ŉ,ċ ŉ,show((w).natAbs:Int)=w by omega]
 cases h
theorem pB(n:Int):Î (ý n)=n:=by
 unfold Î ý;by_cases h:n<0
 .rw[Ă h,ą rfl,ā ŉ];simp;omega
 rw[ċ h];by_cases a:n=0
 .subst a;rfl
 simp[a];omega
theorem Zvh{n:Int}(a:n≠0)(c:-12<=n)(h2:n<=12):fo (ý n)=true:=by unfold fo ý;rw[ā a];simp;omega
def hK(a b:Zf):Int:=if Î a<Î b then -1 else if Î a=Î b then 0 else 1
theorem Tj{a b:Zf}(e:fo a=true)(f:fo b=true):(vh a b).Γ (hK a b):=by
 obtain⟨m,rfl,g,i,j⟩:=ue e;obtain⟨n,rfl,k,l,p⟩:=ue f;have h:=Zq Zyz i j;have c:(m == 0)=false:=by simpa using g
 rw[c,Ľ]at h;have h':=Zq h l p;have d:(n == 0)=false:=by simpa using k
 rw[d,Ľ]at h';have:=Zr h';unfold hK;rw[pB,pB];exact this
theorem Zv9{a b:Zf}(c:fo a=true)(d:fo b=true)(h:hK a b=0):a=b:=by
 obtain⟨m,rfl,_⟩:=ue c;obtain⟨n,rfl,_⟩:=ue d;unfold hK at h;rw[pB,pB]at h;split at h
 .omega
 split at h
 .rename_i e;rw[e]
 omega
theorem ZxW(a b:Zf):hK b a = - hK a b:=by unfold hK;split<;>split<;>(try split)<;>omega
theorem Zzg{a b:Zf}:hK a b<=0↔Î a<=Î b:=by unfold hK;split<;>(try split)<;>constructor<;>intro h<;>omega
theorem Zzh{a b:Zf}:hK a b<0↔Î a<Î b:=by unfold hK;split<;>(try split)<;>constructor<;>intro h<;>omega
theorem Zu9{a b c:Zf}(d:hK a b<=0)(h2:hK b c<=0):hK a c<=0/\((hK a b<0\/hK b c<0)->hK a c<0):=by rw[Zzg]at *;simp only[Zzh];omega
theorem FP(s t:Za):fB t s = - fB s t:=by
 unfold fB;by_cases h:s.m=t.m
 .rw[ą h,ą h.symm];exact ZxW s.c t.c
 rw[ā h,ā (λe=>h e.symm)];exact ub _ _
theorem EY(a b c:Za)(g:fB a b<=0)(h2:fB b c<=0):fB a c<=0/\((fB a b<0\/fB b c<0)->fB a c<0):=by
 have j:∀{x y:Za},x.m≠y.m->Ý x.m y.m<=0->Ý x.m y.m<0:=λh h'=>by
  rcases Int.lt_or_eq_of_le h' with h'|h'
  .exact h'
  exact absurd (uk h') h
 unfold fB at *;by_cases d:a.m=b.m
 .by_cases f:b.m=c.m
  .rw[ą d]at g⊢;rw[ą f]at h2⊢;rw[ą (d.trans f)];exact Zu9 g h2
  rw[ą d]at g⊢;rw[ā f]at h2⊢;rw[ā (λe=>f (d.symm.trans e))];have:=j f h2;rw[d];exact⟨h2,λ_=>this⟩
 by_cases f:b.m=c.m
 .rw[ā d]at g⊢;rw[ą f]at h2⊢;rw[ā (λe=>d (e.trans f.symm))];have:=j d g;rw[<-f];exact⟨g,λ_=>this⟩
 rw[ā d]at g⊢;rw[ā f]at h2⊢;have i:=j d g;have h3:=JV g h2 (.inl i);have:a.m≠c.m:=λe=>by rw[e,A5]at h3;omega
 rw[ā this];exact⟨Int.le_of_lt h3,λ_=>h3⟩
theorem Zwb{s t:Za}(a:fo s.c=true)(c:fo t.c=true)(h:fB s t=0):s=t:=by
 unfold fB at h;have key:s.m=t.m/\s.c=t.c:=by
  by_cases e:s.m=t.m
  .rw[ą e]at h;exact⟨e,Zv9 a c h⟩
  rw[ā e]at h;exact absurd (uk h) e
 cases s;cases t;simp only at key;rw[key.1,key.2]
theorem qF:∀p q:Ŀ Za,í q p = - í p q
 |[],[]=>rfl
 |[],_::_=>rfl
 |_::_,[]=>rfl
 |s::p,t::q=>by
  unfold í;rw[FP s t,qF p q];by_cases h:fB s t=0
  .rw[ą h,ą ŉ]
  rw[ā h,ā ŉ]
theorem yN:∀a b c:Ŀ Za,í a b<=0->í b c<=0->í a c<=0/\((í a b<0\/í b c<0)->í a c<0)
 |[],[],[],d,h2=>⟨ĳ,λh=>by rcases h with h|h<;>exact absurd h ĳ⟩
 |[],[],_::_,d,h2=>⟨by simp[í],λ_=>by simp[í]⟩
 |[],_::_,[],d,h2=>by simp[í]at h2
 |[],_::_,_::_,d,h2=>⟨by simp[í],λ_=>by simp[í]⟩
 |_::_,[],_,d,h2=>by simp[í]at d
 |_::_,_::_,[],d,h2=>by simp[í]at h2
 |s::a,t::b,u::c,d,h2=>by
  have l:=FP s t;have i:=yN a b c;have tr:=EY s t u;have j:=EY t s u;have k:=EY s u t;have m:=FP t u;have n3:=FP s u;simp only[í]at *;by_cases g:fB s t=0
  .rw[ą g]at d⊢;by_cases e:fB t u=0
   .rw[ą e]at h2⊢;have h3:fB s u=0:=by
     have f:=(tr ŉ ŉ).1;have n:=(EY u t s ŉ ŉ).1;omega
    rw[ą h3];exact i d h2
   rw[ā e]at h2⊢;have f:=(tr ŉ h2).2 (.inr ŉ);rw[ā ŉ];exact⟨ŉ,λ_=>f⟩
  rw[ā g]at d⊢;have e:fB t u<=0:=by
   by_cases e:fB t u=0
   .omega
   rw[ā e]at h2;exact h2
  have f:=(tr d e).2 (.inl ŉ);rw[ā ŉ];exact⟨ŉ,λ_=>f⟩
theorem xw(p:Ŀ Za):í p p=0:=by have:=qF p p;omega
theorem R3{t:Za}{p:Ŀ Za}(h:Ñ (t::p)=true):fo t.c=true/\Ñ p=true:=by unfold Ñ at *;simp only[Ĉ,Ę,Ě,abk]at h⊢;exact⟨h.2.1,ŉ,h.2.2⟩
theorem A6:∀{p q:Ŀ Za},Ñ p=true->Ñ q=true->í p q=0->p=q
 |[],[],_,_,_=>rfl
 |[],_::_,_,_,h=>by simp[í]at h
 |_::_,[],_,_,h=>by simp[í]at h
 |s::p,t::q,hp,a,h=>by
  obtain⟨p1,p2⟩:=R3 hp;obtain⟨c,d⟩:=R3 a;simp only[í]at h;by_cases e:fB s t=0
  .rw[ą e]at h;rw[Zwb p1 c e,A6 p2 d h]
  rw[ā e]at h;exact absurd h e
abbrev mE:={ p:Ŀ Za // Ñ p=true }
theorem OC:Go.Sort.SWO (Go.Proofs.ltOf λa b:mE=>í a.1 b.1) where
 irrefl x:=by show decide (í x.1 x.1<0)=false;rw[xw];rfl
 trans x y z c h2:=by simp only[Go.Proofs.ltOf,Ę]at *;exact(yN x.1 y.1 z.1 ŉ ŉ).2 (.inl c)
 ntrans x y z c h2:=by simp only[Go.Proofs.ltOf,aar,aaH]at *;have d:=qF x.1 y.1;have e:=qF y.1 z.1;have n3:=qF x.1 z.1;have:=(yN z.1 y.1 x.1 ŉ ŉ).1;omega
theorem Lu(x:Ŀ Za):∀l,(zO x l).Perm (x::l)
 |[]=>x5 _
 |y::l=>by
  unfold zO;split
  .exact ((Lu x l).cons y).trans (List.Perm.swap x y l)
  exact x5 _
theorem vq:∀l,(jz l).Perm l
 |[]=>x5 _
 |x::l=>(Lu x (jz l)).trans ((vq l).cons x)
theorem R5(x:Ŀ Za):∀l,l.Pairwise (λa b=>í a b<=0)->(zO x l).Pairwise (λa b=>í a b<=0)
 |[],_=>ū _ _
 |y::l,h=>by
  unfold zO;obtain⟨d,h2⟩:=Į.1 h;have n:=qF x y;split
  .refine Į.2 ⟨λz c=>?_,R5 x l h2⟩;rcases Ď.1 ((Lu x l).mem_iff.1 c)with rfl|c
   .omega
   exact d z c
  refine Į.2 ⟨λz c=>?_,h⟩;rcases Ď.1 c with rfl|c
  .omega
  exact(yN x y z ŉ (d z c)).1
theorem Kw:∀l,(jz l).Pairwise (λa b=>í a b<=0)
 |[]=>List.Pairwise.nil
 |x::l=>R5 x _ (Kw l)
theorem Q7:∀{l m:Ŀ (Ŀ Za)},l.Perm m->(∀p∈l,Ñ p=true)->l.Pairwise (λa b=>í a b<=0)->m.Pairwise (λa b=>í a b<=0)->l=m
 |[],m,h,_,_,_=>(List.Perm.nil_eq h)
 |x::l,[],h,_,_,_=>by have:=h.length_eq;simp at this
 |x::l,y::m,h,d,j,h2=>by
  obtain⟨a1,a2⟩:=Į.1 j;obtain⟨g,i⟩:=Į.1 h2;have e:x=y:=by
   have f:x∈y::m:=h.mem_iff.1 ß;have c:y∈x::l:=h.mem_iff.2 ß;have k:í x y<=0:=by
    rcases Ď.1 c with rfl|c
    .rw[xw];exact ŝ 0
    exact a1 y c
   have q:í y x<=0:=by
    rcases Ď.1 f with rfl|f
    .rw[xw];exact ŝ 0
    exact g x f
   have n:=qF x y;exact A6 (d x ß) (d y c) ŉ
  subst e;rw[Q7 (List.Perm.cons_inv h) (λp hp=>d p (by simp[hp])) a2 i]
theorem ZxH{s t:Za}(a:fo s.c=true)(c:fo t.c=true):(Ea s t).Γ (fB s t):=by
 unfold Ea fB;by_cases h:s.m=t.m
 .rw[ą h];exact Cq.wp.no (by simpa using h) ⟨_,Tj a c,rfl⟩
 rw[ā h];exact Cq.wp.yes h ⟨_,Jq _ _,rfl⟩
theorem tF{p:Ŀ Za}(h:Ñ p=true){k:Nat}(a:k<p.length):fo p[k].c=true:=by unfold Ñ at h;simp only[Ĉ]at h;exact Ć.1 h.2 _ (ă a)
theorem vp{p:Ŀ Za}(h:Ñ p=true):p.length<=1000:=by unfold Ñ at h;simp only[Ĉ,Ę]at h;exact h.1
theorem Ft(p q:Ŀ Za){k:Nat}(hp:k<p.length)(a:k<q.length):í (p.drop k) (q.drop k)=if fB p[k] q[k]=0 then í (p.drop (k+1)) (q.drop (k+1))else fB p[k] q[k]:=by rw[ĭ hp,ĭ a];rfl
theorem Te{p q:Ŀ Za}(hp:Ñ p=true)(g:Ñ q=true):(Em p q).Γ (í p q):=by
 have j:=vp hp;have l:=vp g;refine⟨í p q,?_,rfl⟩;unfold ZB;refine(ZI p q 0).mono (p:=λo=>match o with|.inl v=>v=í p q|.inr ()=>q.length ≥ p.length/\í p q=í [] (q.drop p.length)) (λo h=>?_) (Cq.Zo p.length (λk s=>s=(k:Int)/\k<=p.length/\k<=q.length/\í p q=í (p.drop k) (q.drop k)) ?_ ?_ ⟨rfl,Ĝ _,Ĝ _,rfl⟩)
 .match o,h with
  |.inl v,h=>exact h
  |.inr (),⟨f,h2⟩=>
   show(Zz p q).Γ _;unfold Zz;by_cases i:p.length<q.length
   .refine Cq.wp.yes ŉ ?_;show(-1:Int)=_;rw[h2,ĭ i];rfl
   refine Cq.wp.no ŉ ?_;show(0:Int)=_;rw[h2,Ķ ŉ];rfl
 .rintro k s d ⟨rfl,f,h2,h3⟩;refine Cq.wp.yes ŉ ⟨_,Ξ d,?_⟩;by_cases a:k<q.length
  .refine Cq.wp.no ŉ ⟨_,Ξ a,_,ZxH (tF hp d) (tF g a),?_⟩;have c:=Ft p q d a;by_cases e:fB p[k] q[k]=0
   .rw[ą e]at c;refine Cq.wp.no ŉ ?_;exact⟨χ ŉ,ŉ,ŉ,h3.trans c⟩
   rw[ā e]at c;refine Cq.wp.yes e ?_;exact(h3.trans c).symm
  refine Cq.wp.yes ŉ ?_;show(1:Int)=_;rw[h3,ĭ d,Ķ (show q.length<=k by omega)];rfl
 rintro s ⟨rfl,f,h2,h3⟩;refine Cq.wp.no ŉ ?_;refine⟨h2,?_⟩;rw[h3,Ķ (ĉ _)]
theorem SL(y:Ŀ Za):∀(x:Ŀ Za) (l:Ŀ (Ŀ Za)),jQ x (l++[y])=jQ x l++(if í y (l.getLastD x)=0 then[]else[y])
 |x,[]=>by
  show jQ x [y]=_;unfold jQ;by_cases h:í y x=0
  .rw[ą h];simp[h,jQ]
  rw[ā h];simp[h,jQ]
 |x,z::l=>by
  have a:=SL y z l;show jQ x (z::(l++[y]))=_;have e:(z::l).getLastD x=l.getLastD z:=by cases l<;>simp[List.getLastD]
  rw[e];simp only[jQ];split
  .exact a
  rw[a];rfl
theorem SM{xs:Ŀ (Ŀ Za)}{j:Nat}(c:1<=j)(a:j<xs.length):gj (xs.take (j+1))=if í xs[j] xs[j-1]=0 then gj (xs.take j)else gj (xs.take j)++[xs[j]]:=by
 match xs,a with
 |x::l,a=>
  obtain⟨i,rfl⟩:∃i,j=i+1:=⟨j-1,ŉ⟩;have hi:i<l.length:=by simpa using a
  rw[č a];simp only[List.take_succ_cons,ĸ,gj,SL,x8,Nat.add_sub_cancel];have e:(l.take i).getLastD x=(x::l)[i]:=by
   cases i with
   |zero=>rfl
   |succ i=>
    rw[List.getLastD_eq_getLast?,List.getLast?_eq_getElem?,Č];rw[show min (i+1) l.length-1=i by omega,Ŵ ŉ,Ą ŉ];rfl
  rw[e];split<;>simp
theorem TU:∀{xs:Ŀ (Ŀ Za)},(gj xs).length<=xs.length
 |[]=>ĉ _
 |x::l=>by
  have key:∀(x:Ŀ Za) (l:Ŀ (Ŀ Za)),(jQ x l).length<=l.length:=by
   intro x l;induction l generalizing x with
   |nil=>exact ĉ _
   |cons y l a=>
    unfold jQ;split
    .exact aav (a y)
    simpa using a y
  simpa[gj]using key x l
theorem R1{xs:Ŀ (Ŀ Za)}(h:xs.length<2):gj xs=xs:=by
 match xs,h with
 |[],_=>rfl
 |[x],_=>rfl
theorem Zv2{s t:Za}(a:fo s.c=true)(c:fo t.c=true):(D' s t).Γ (decide (fB s t=0)):=by
 unfold D' fB;by_cases h:s.m=t.m
 .simp only[ą h];exact⟨_,Tj a c,rfl⟩
 simp only[ā h];show false=_;have:¬Ý s.m t.m=0:=λe=>h (uk e);simp[this]
theorem LK:∀{p q:Ŀ Za},í p q=0->p.length=q.length
 |[],[],_=>rfl
 |[],_::_,h=>by simp[í]at h
 |_::_,[],h=>by simp[í]at h
 |s::p,t::q,h=>by
  simp only[í]at h;split at h
  .simp[LK h]
  rename_i h';exact absurd h h'
theorem Fh{p q:Ŀ Za}(hp:Ñ p=true)(f:Ñ q=true):(ZU p q).Γ (decide (í p q=0)):=by
 have j:=vp hp;have l:=vp f;refine⟨decide (í p q=0),?_,rfl⟩;unfold ZC;by_cases i:p.length=q.length
 .refine Cq.wp.no ŉ ?_;refine(ZJ p q 0).mono (p:=λo=>match o with|.inl v=>v=decide (í p q=0)|.inr ()=>í p q=0) (λo h=>?_) (Cq.Zo p.length (λk s=>s=(k:Int)/\k<=p.length/\í p q=í (p.drop k) (q.drop k)) ?_ ?_ ⟨rfl,Ĝ _,rfl⟩)
  .match o,h with
   |.inl v,h=>exact h
   |.inr (),h=>show true=_;rw[Ă h]
  .rintro k s d ⟨rfl,g,h3⟩;have a:k<q.length:=ŉ;refine Cq.wp.yes ŉ ⟨_,Ξ d,_,Ξ a,_,Zv2 (tF hp d) (tF f a),?_⟩;have c:=Ft p q d a;by_cases e:fB p[k] q[k]=0
   .rw[ą e]at c;rw[Ă e];exact⟨χ ŉ,ŉ,h3.trans c⟩
   rw[ā e]at c;rw[ċ e];show false=_;rw[h3,c,ċ e]
  rintro s ⟨rfl,g,h3⟩;refine Cq.wp.no ŉ ?_;show í p q=0;rw[h3,Ķ (ĉ _),Ķ ŉ];rfl
 refine Cq.wp.yes ŉ ?_;show false=_;rw[ċ (λh=>i (LK h))]
theorem ZxU:(ã 0 100 λn=>match(tZ (u64.wrap n)).ev 30 with|some v=>decide (0<=v/\v<1000000)|none=>false)=true:=by decide +kernel
theorem TQ{n:Nat}(h:n<=100):∃v,(tZ (u64.wrap (n:Int))).Γ v/\0<=v/\v<1000000:=by
 have:=Zq ZxU (show(0:Int)<=(n:Int) by omega) (show(n:Int)<=100 by omega);cases a:(tZ (u64.wrap (n:Int))).ev 30 with
 |none=>rw[a]at this;cases this
 |some v=>rw[a]at this;exact⟨v,Cq.Γ.mf 30 a,ĥ this⟩
end Go.EL

namespace Go.EL
open Go.IntKind (i8 i16 i32 i64 u8 u16 u32 u64)
open Go Go.RowKit
structure iu (t:Za):Prop where
 c:∃c:Int,t.c=ý c/\c≠0/\-12<=c/\c<=12
 m:Ok t.m
structure Β (p:Ŀ Za):Prop where
 ord:p.Pairwise λx y=>0<Ý x.m y.m
 tm:∀t∈p,iu t
 len:p.length<=100
theorem iu.rv{t:Za}(h:iu t):(uj t.c).Γ true:=by obtain⟨⟨c,e,a,d,h2⟩,_⟩:=h;have:=Zq Zxv (x:=c) ŉ ŉ;rw[e];exact Zr (by simpa[a]using this)
theorem iu.rs{t:Za}(h:iu t):∃s,(oy t.c).Γ s/\s≠0:=by obtain⟨⟨c,e,a,d,h2⟩,_⟩:=h;have:=Zq FY (x:=c) ŉ ŉ;rw[e];exact⟨_,Zr this,by split<;>omega⟩
theorem iu.pv{t:Za}(h:iu t):(ZZ t.c).Γ true:=by obtain⟨⟨c,e,a,d,h2⟩,_⟩:=h;have:=Zq ZvI (x:=c) ŉ ŉ;rw[e];exact Zr (by simpa[a]using this)
theorem iu.ps{t:Za}(h:iu t):∃s,(ZH t.c).Γ s/\s≠0:=by
 obtain⟨⟨c,e,a,d,h2⟩,_⟩:=h;have:=Zq Sr (x:=c) ŉ ŉ;rw[e];refine⟨_,Zr (by simpa[a]using this),?_⟩;split<;>first|omega|(split<;>omega)
theorem Β.at{p:Ŀ Za}(h:Β p){k:Nat}(a:k<p.length):iu p[k]:=h.tm _ (ă a)
theorem Β.step{p:Ŀ Za}(h:Β p){k:Nat}(a:k+1<p.length):0<Ý p[k].m p[k+1].m:=Ģ.1 h.ord k (k+1) ŉ a ŉ
theorem Ao{p:Ŀ Za}(h:Β p):(AZ p).Γ true:=by
 have i:=h.len;refine Cq.Zo p.length (λk s=>s=(k:Int)) (λk s a c=>?_) (λs c=>?_) rfl
 .subst c;have d:=h.at a;obtain⟨s,e,h2⟩:=d.rs;rw[Cq.Zm,ą ŉ];refine⟨p[k],Ξ a,true,d.rv,p[k],Ξ a,s,e,?_⟩;rw[Cq.Zm,ā h2];refine⟨p[k],Ξ a,true,Qg d.m,?_⟩;rw[Cq.Zm,ā ĳ];show(JR p (k:Int)).wp _;unfold JR;rw[Cq.Zm];split
  .rename_i g;obtain⟨j,rfl⟩:∃j,k=j+1:=⟨k-1,ŉ⟩;have f:i64.wrap (((j+1:Nat):Int)-1)=(j:Int):=by rw[wrap64 ŉ];omega
   rw[f];refine⟨p[j],Ξ ŉ,p[j+1],Ξ a,_,Az _ _,?_⟩;have:=h.step a;rw[Cq.Zm,ā ŉ];exact χ ŉ
  exact χ ŉ
 subst c;rw[Cq.Zm,ā ŉ];rfl
theorem D4{p:Ŀ Za}(h:Β p):(Am p).Γ true:=by
 have i:=h.len;refine Cq.Zo p.length (λk s=>s=(k:Int)) (λk s a c=>?_) (λs c=>?_) rfl
 .subst c;have d:=h.at a;obtain⟨s,e,h2⟩:=d.ps;refine Cq.wp.yes (p:=(k:Int)<(p.length:Int)) ŉ ?_;refine⟨p[k],Ξ a,true,d.pv,s,e,?_⟩;rw[Cq.Zm,ā h2];refine⟨true,Tc d.m,?_⟩;rw[Cq.Zm,ā ĳ];show(I9 p (k:Int) p[k]).wp _;unfold I9;rw[Cq.Zm];split
  .rename_i g;obtain⟨j,rfl⟩:∃j,k=j+1:=⟨k-1,ŉ⟩;have f:i64.wrap (((j+1:Nat):Int)-1)=(j:Int):=by rw[wrap64 ŉ];omega
   rw[f];refine⟨p[j],Ξ ŉ,_,Jq _ _,?_⟩;have:=h.step a;rw[Cq.Zm,ā ŉ];exact χ ŉ
  exact χ ŉ
 subst c;refine Cq.wp.no (p:=((p.length:Nat):Int)<(p.length:Int)) ŉ ?_;rfl
def hZ(p:Ŀ Za):Nat->Int
 |0=>0
 |k+1=>u8.wrap (BitVec.ofInt u8.bits (hZ p k) ||| BitVec.ofInt u8.bits (match p[k]? with|some t=>jE t.m|none=>0)).toNat
def ð(p:Ŀ Za):Int:=hZ p p.length
def fH(p:Ŀ Za):Nat->Int
 |0=>-1
 |k+1=>match p[k]? with|some t=>if fH p k<fG t.m then fG t.m else fH p k|none=>fH p k
def gk(p:Ŀ Za):Int:=fH p p.length
theorem An{p:Ŀ Za}(d:p.length<=100):(Bj p).Γ (ð p):=by
 refine Cq.Zo p.length (λk s=>s=(hZ p k,(k:Int))) (λk s c a=>?_) (λs a=>?_) rfl
 .subst a;refine Cq.wp.yes (p:=(k:Int)<(p.length:Int)) ŉ ?_;refine⟨p[k],Ξ c,_,ZmE _,?_⟩;show _=_;rw[χ ŉ];simp only[hZ,Ą c]
 subst a;refine Cq.wp.no (p:=((p.length:Nat):Int)<(p.length:Int)) ŉ ?_;rfl
theorem FO{p:Ŀ Za}(d:p.length<=100):(As p).Γ (ð p):=by
 refine Cq.Zo p.length (λk s=>s=(hZ p k,(k:Int))) (λk s c a=>?_) (λs a=>?_) rfl
 .subst a;refine Cq.wp.yes (p:=(k:Int)<(p.length:Int)) ŉ ?_;refine⟨p[k],Ξ c,_,Ztn _,?_⟩;show _=_;rw[χ ŉ];simp only[hZ,Ą c]
 subst a;refine Cq.wp.no (p:=((p.length:Nat):Int)<(p.length:Int)) ŉ ?_;rfl
theorem w9{p:Ŀ Za}(h:Β p):(xf p).Γ (gk p):=by
 have d:=h.len;refine Cq.Zo p.length (λk s=>s=(fH p k,(k:Int))) (λk s a c=>?_) (λs c=>?_) rfl
 .subst c;refine Cq.wp.yes (p:=(k:Int)<(p.length:Int)) ŉ ?_;refine⟨p[k],Ξ a,_,ZnH (h.at a).m,?_⟩;show _=_;rw[χ ŉ];simp only[fH,Ą a]
 subst c;refine Cq.wp.no (p:=((p.length:Nat):Int)<(p.length:Int)) ŉ ?_;rfl
theorem yC{p:Ŀ Za}(h:Β p):(wY p).Γ (gk p):=by
 have d:=h.len;refine Cq.Zo p.length (λk s=>s=(fH p k,(k:Int))) (λk s a c=>?_) (λs c=>?_) rfl
 .subst c;refine Cq.wp.yes (p:=(k:Int)<(p.length:Int)) ŉ ?_;refine⟨p[k],Ξ a,_,ZuI (h.at a).m,?_⟩;show _=_;rw[χ ŉ];simp only[fH,Ą a]
 subst c;refine Cq.wp.no (p:=((p.length:Nat):Int)<(p.length:Int)) ŉ ?_;rfl
end Go.EL

namespace Go.EL
open Go.IntKind (i8 i16 i32 i64 u8 u16 u32 u64)
open Go Go.RowKit
def Ð(p:Ŀ Za)(n:Int):Bool:=if(Int.fdiv (i64.wrap (ð p)) (2 ^ (min (n).toNat i64.bits)))=0 then decide (gk p<=12)else false
theorem Znt{p:Ŀ Za}(h:Β p){n:Int}(a:0<=n):(Kz p n).Γ (Ð p n):=by
 refine⟨true,D4 h,_,FO h.len,a,?_⟩;unfold Ð;rw[Cq.Zm];split
 .exact⟨_,yC h,rfl⟩
 rfl
theorem Si(a:M):∀k:Nat,k<=8->∀i:Fin 8,(Ü a k).toNat.testBit i.val=(decide (i.val<k)&&decide (0<a i))
 |0,_,i=>by simp[Ü]
 |k+1,g,i=>by
  have f:=Si a k ŉ i;have c:=AV a k;have il:k<8:=ŉ;rw[zn]at c;simp only[Ü,ŷ il];by_cases hi:i.val=k
  .have e:i=⟨k,il⟩:=abd hi;subst e;by_cases hp:0<a ⟨k,il⟩
   .rw[ą hp,zn,show(Ü a k+((2 ^ k:Nat):Int)).toNat=2 ^ k+(Ü a k).toNat by omega,Nat.testBit_two_pow_add_eq,dI ŉ];simp[hp]
   rw[ā hp,aaA];show(Ü a k).toNat.testBit k=_;rw[dI ŉ];simp[hp]
  have d:(decide (i.val<k+1))=decide (i.val<k):=by
   by_cases h:i.val<k
   .simp[h,show i.val<k+1 by omega]
   simp[h,show ¬i.val<k+1 by omega]
  rw[d,<-f];by_cases hp:0<a ⟨k,il⟩
  .rw[ą hp,zn,show(Ü a k+((2 ^ k:Nat):Int)).toNat=2 ^ k+(Ü a k).toNat by omega];by_cases h:i.val<k
   .rw[Nat.testBit_two_pow_add_gt h]
   rw[dI (x:=(Ü a k).toNat) (aan (by omega:(Ü a k).toNat<2 ^ k) (aaN ŉ ŉ))];refine dI (aan (by have:=c.2;omega:2 ^ k+(Ü a k).toNat<2 ^ (k+1)) (aaN ŉ ŉ))
  rw[ā hp,aaA]
theorem Zxr(a:M)(i:Fin 8):(jE a).toNat.testBit i.val=decide (0<a i):=by unfold jE;rw[Si a 8 ŉ];simp[i.isLt]
theorem Ug(a:M):0<=jE a/\jE a<256:=AV a 8
theorem VV{a b:Nat}(c:a<256)(d:b<256):u8.wrap (BitVec.ofInt u8.bits (a:Int) ||| BitVec.ofInt u8.bits (b:Int)).toNat=((a ||| b:Nat):Int):=by
 have h:(BitVec.ofInt u8.bits (a:Int) ||| BitVec.ofInt u8.bits (b:Int)).toNat=a ||| b:=by rw[BitVec.toNat_or];simp only[IntKind.bits,BitVec.toNat_ofInt];rw[show(((a:Int) % ((2 ^ 8:Nat):Int)).toNat)=a by omega,show(((b:Int) % ((2 ^ 8:Nat):Int)).toNat)=b by omega]
 have h2:a ||| b<256:=Nat.or_lt_two_pow (n:=8) c d
 rw[h];simp only[IntKind.wrap,IntKind.bits,IntKind.signed,Ŷ,ś,aaK];omega
def jG(p:Ŀ Za):Nat->Nat
 |0=>0
 |k+1=>jG p k ||| (match p[k]? with|some t=>(jE t.m).toNat|none=>0)
theorem L7(p:Ŀ Za):∀k,jG p k<256
 |0=>by simp[jG]
 |k+1=>by
  refine Nat.or_lt_two_pow (n:=8) (L7 p k) ?_;split
  .rename_i t _;have h:(jE t.m).toNat<256:=by have:=Ug t.m;omega
   exact h
  decide
theorem Sk(p:Ŀ Za):∀k,hZ p k=(jG p k:Int)
 |0=>rfl
 |k+1=>by
  have a:=L7 p k;unfold hZ jG;rw[Sk p k];cases p[k]? with
  |none=>exact VV (b:=0) a ŉ
  |some t=>
   have h:=Ug t.m;obtain⟨n,c⟩:=aas h.1;show u8.wrap (BitVec.ofInt u8.bits (jG p k:Int) ||| BitVec.ofInt u8.bits (jE t.m)).toNat=((jG p k ||| (jE t.m).toNat:Nat):Int);rw[c];exact VV a ŉ
theorem Sx(p:Ŀ Za)(i:Fin 8):∀k,(jG p k).testBit i.val=(p.take k).any λt=>decide (0<t.m i)
 |0=>by simp[jG]
 |k+1=>by
  simp only[jG,Nat.testBit_or,Sx p i k];cases h:p[k]? with
  |none=>
   have:p.length<=k:=aag.1 h;simp[ě this,ě (show p.length<=k+1 by omega)]
  |some t=>
   rw[List.take_add_one,h];simp[Zxr]
theorem Tf(p:Ŀ Za):ð p=(jG p p.length:Int):=Sk p _
theorem Sy(p:Ŀ Za)(i:Fin 8):(ð p).toNat.testBit i.val=p.any λt=>decide (0<t.m i):=by rw[Tf,Ĕ,Sx,Ħ]
theorem ui(p:Ŀ Za):0<=ð p/\ð p<256:=by have:=L7 p p.length;rw[Tf];omega
theorem Zx3(u n:Nat):Int.fdiv (u:Int) ((2:Int) ^ n)=((u >>> n:Nat):Int):=by rw[ů,show((2:Int) ^ n)=((2 ^ n:Nat):Int) by simp,aae _ (Int.natCast_nonneg _)];simp
theorem ZvK(p:Ŀ Za){n:Int}(c:0<=n)(d:n<=8):Int.fdiv (i64.wrap (ð p)) (2 ^ (min (n).toNat i64.bits))=(((ð p).toNat >>> n.toNat:Nat):Int):=by have:=ui p;rw[wrap64 ŉ,show min n.toNat i64.bits=n.toNat by simp only[IntKind.bits];omega];obtain⟨u,a⟩:=aas this.1;rw[a];exact Zx3 u _
theorem SN(p:Ŀ Za)(d:Int)(c:-1<=d):∀k,k<=p.length->(fH p k<=d↔∀i (h:i<p.length),i<k->fG p[i].m<=d)
 |0,_=>by simp[fH,c]
 |k+1,j=>by
  have f:=SN p d c k ŉ;have il:k<p.length:=ŉ;simp only[fH,Ą il];constructor
  .intro h i hi a;by_cases e:i=k
   .subst e;split at h<;>omega
   refine f.1 ?_ i hi ŉ;split at h<;>omega
  intro h;have g:=h k il ŉ;have h2:=f.2 λi hi a=>h i hi ŉ;split<;>omega
theorem tC{p:Ŀ Za}{d:Int}(a:-1<=d):gk p<=d↔∀t∈p,fG t.m<=d:=by
 unfold gk;rw[SN p d a p.length ŉ];constructor
 .intro h t c;obtain⟨i,hi,rfl⟩:=ķ.1 c;exact h i hi hi
 intro h i hi _;exact h _ (ă hi)
def lF(n:Nat)(p:Ŀ Za):Prop:=∀t∈p,∀i:Fin 8,n<=i.val->¬0<t.m i
theorem yP{p:Ŀ Za}{n:Nat}:((ð p).toNat >>> n=0)↔lF n p:=by
 have e:=ui p;constructor
 .intro h t a i hi hp;have c:=Sy p i;rw[show(p.any λt=>decide (0<t.m i))=true from dV.2 ⟨t,a,Ă hp⟩]at c;have h2:((ð p).toNat >>> n).testBit (i.val-n)=true:=by rw[Nat.testBit_shiftRight,show n+(i.val-n)=i.val by omega];exact c
  rw[h]at h2;simp at h2
 intro h;refine Nat.eq_of_testBit_eq λj=>?_;rw[Nat.testBit_shiftRight,Nat.zero_testBit];by_cases d:n+j<8
 .rw[Sy p ⟨n+j,d⟩];refine List.any_eq_false.2 λt a=>?_;simp only[Ę];exact h t a _ ß
 exact dI (aan (show(ð p).toNat<2 ^ 8 by omega) (aaN ŉ ŉ))
theorem pC{p:Ŀ Za}{n:Nat}(a:n<=8):Ð p (n:Int)=true↔lF n p/\∀t∈p,fG t.m<=12:=by
 unfold Ð;rw[ZvK p ŉ ŉ,Ĕ];by_cases h:(ð p).toNat >>> n=0
 .rw[ą (by rw[h];rfl),Ę,tC ŉ];exact⟨λk=>⟨yP.1 h,k⟩,λk=>k.2⟩
 rw[ā ŉ];exact⟨λk=>absurd k ĳ,λk=>absurd (yP.2 k.1) h⟩
end Go.EL

namespace Go.EL
open Go.IntKind (i8 i16 i32 i64 u8 u16 u32 u64)
open Go Go.RowKit
def jl(r:Zf):Int:=if r.num.neg=true then -(r.num.υ.headD 0)else r.num.υ.headD 0
theorem Lm(c:Int):jl (ý c)=c:=by
 unfold jl ý;by_cases h:c<0
 .simp[h,show ¬c=0 by omega];omega
 by_cases a:c=0
 .simp[a]
 simp[h,a];omega
def gh:Ŀ Za->Za->Ŀ Za
 |[],t=>[t]
 |x::xs,t=>if 0<Ý x.m t.m then x::gh xs t else if Ý x.m t.m<0 then t::x::xs else if jl x.c+jl t.c=0 then xs else⟨ý (jl x.c+jl t.c),x.m⟩::xs
theorem Rr:∀(p:Ŀ Za) (t:Za),(gh p t).length<=p.length+1
 |[],_=>by simp[gh]
 |x::xs,t=>by
  have a:=Rr xs t;simp only[gh];split
  .simp;omega
  split
  .simp
  split<;>simp;omega
theorem KZ:∀(k:Nat) (p:Ŀ Za) (t:Za),k<=p.length->(∀x∈p.take k,0<Ý x.m t.m)->gh p t=p.take k++gh (p.drop k) t
 |0,p,t,_,_=>by simp
 |k+1,[],t,h,_=>by simp at h
 |k+1,x::xs,t,h,a=>by have c:0<Ý x.m t.m:=a x ß;rw[gh,ą c,KZ k xs t (by simpa using h) (λy d=>a y (by simp[d]))];simp
def wQ(p:Ŀ Za)(t:Za):Prop:=∀x∈p,x.m=t.m->∃a b,x.c=ý a/\t.c=ý b/\-12<=a/\a<=12/\-3<=b/\b<=3
theorem Zyf{p:Ŀ Za}{t x:Za}(h:wQ p t)(i:x∈p)(g:x.m=t.m):(vC x.c t.c).Γ (ý (jl x.c+jl t.c))/\∃s,(oy (ý (jl x.c+jl t.c))).Γ s/\(s=0↔jl x.c+jl t.c=0):=by
 obtain⟨a,b,c,d,e,h2,h3,f⟩:=h x i g;rw[c,d,Lm,Lm];have j:=Zq (Zq Zzb e h2) h3 f;have k2:=Zq FY (x:=a+b) ŉ ŉ;refine⟨Zr j,_,Zr k2,?_⟩;split
 .omega
 split<;>omega
theorem ZsU{p:Ŀ Za}(d:p.length<=100):(Bp p []).Γ p:=by
 show(Cq.next _ _).wp _;refine Cq.Zo p.length (λk s=>s=(p.take k,(k:Int),0)) (λk s c a=>?_) (λs a=>?_) ß
 .subst a;refine Cq.wp.yes (p:=(k:Int)<(p.length:Int)) ŉ ?_;unfold xa;rw[Cq.Zm,ą ß];unfold vr;rw[Cq.Zm,ą rfl];refine⟨p[k],Ξ c,by simp[small];omega,?_⟩;show _=_;rw[χ ŉ,ţ c]
 subst a;show(if((p.length:Nat):Int)<(p.length:Int)then _ else _:Cq _).wp _;rw[Cq.Zm,ā ŉ,Cq.Zm,ā ß];exact Ħ
theorem QS{p:Ŀ Za}{t:Za}(y:p.length<=100)(u:wQ p t):(Bp p [t]).Γ (gh p t):=by
 show(Cq.next _ _).wp _;refine Cq.LN (λs=>(∃i:Nat,i<=p.length/\s=(p.take i,(i:Int),0)/\∀x∈p.take i,0<Ý x.m t.m)\/(∃i:Nat,∃f:Ŀ Za,i<=p.length/\s=(f,(i:Int),1)/\f++p.drop i=gh p t/\f.length<=i+1))
  (λs=>(p.length-s.2.1.toNat)+(1-s.2.2.toNat)) (λs v=>?_) _ (.inl ⟨0,ŉ,ß,ß⟩)
 have m:i64.wrap 1=1:=ĳ;rcases v with ⟨i,hi,rfl,k⟩|⟨i,f,hi,rfl,l,q⟩
 .by_cases a:i<p.length
  .refine Cq.wp.yes (p:=(i:Int)<(p.length:Int)) ŉ ?_;unfold xa;rw[Cq.Zm,ā ß,Cq.Zm,ą ŉ];refine⟨p[i],Ξ a,t,⟨ŉ,rfl⟩,_,Az _ _,?_⟩;unfold vr;rw[Cq.Zm];have d:gh p t=p.take i++gh (p.drop i) t:=KZ i p t hi k;have c:p.drop i=p[i]::p.drop (i+1):=ĭ a;by_cases g:0<Ý p[i].m t.m
   .rw[ą (Ă g)];refine⟨p[i],Ξ a,by simp[small];omega,?_⟩;rw[χ ŉ,ţ a];refine⟨.inl ⟨i+1,ŉ,rfl,λx pX=>?_⟩,ab0⟩;rw[<-ţ a]at pX;rcases Ĩ.1 pX with h|h
    .exact k x h
    rw[Ē]at h;subst h;exact g
   rw[ā (by simpa using g)];show(AM p [t] 0 (p.take i) (i:Int)).wp _;unfold AM;rw[Cq.Zm,ā ŉ];refine⟨p[i],Ξ a,t,⟨ŉ,rfl⟩,_,Az _ _,?_⟩;unfold AL;rw[Cq.Zm];by_cases e:Ý p[i].m t.m<0
   .rw[ą (Ă e)];refine⟨t,⟨ŉ,rfl⟩,by simp[small];omega,?_⟩;refine⟨.inr ⟨i,_,hi,rfl,?_,ab0⟩,by simp[m]⟩;rw[d,c,gh,ā g,ą e];simp
   rw[ā (by simpa using e)];have r:p[i].m=t.m:=uk ŉ;obtain⟨n,s,h2,h3⟩:=Zyf u (ă a) r;unfold Kq;refine⟨p[i],Ξ a,t,⟨ŉ,rfl⟩,_,n,s,h2,?_⟩;rw[Cq.Zm];by_cases j:jl p[i].c+jl t.c=0
   .rw[ā (by simpa using h3.2 j)];rw[χ ŉ];refine⟨.inr ⟨i+1,_,ŉ,rfl,?_,ab0⟩,ab0⟩;rw[d,c,gh,ā g,ā e,ą j]
   rw[ą (λh=>j (h3.1 h))];refine⟨p[i],Ξ a,by simp[small];omega,?_⟩;rw[χ ŉ];refine⟨.inr ⟨i+1,_,ŉ,rfl,?_,ab0⟩,ab0⟩;rw[d,c,gh,ā g,ā e,ā j];simp
  obtain rfl:i=p.length:=ŉ;show(if((p.length:Nat):Int)<(p.length:Int)then _ else _:Cq _).wp _;rw[Cq.Zm,ā ŉ,Cq.Zm,ą ß];unfold xa;rw[Cq.Zm,ā ß,Cq.Zm,ā ŉ];unfold vr;rw[Cq.Zm,ā ĳ];unfold AM;rw[Cq.Zm,ą rfl];unfold AL;rw[Cq.Zm,ą rfl];refine⟨t,⟨ŉ,rfl⟩,by simp[small];omega,?_⟩;refine⟨.inr ⟨p.length,_,ŉ,rfl,?_,ß⟩,by simp[m]⟩;rw[KZ p.length p t ŉ k,aaf];simp[gh]
 by_cases a:i<p.length
 .refine Cq.wp.yes (p:=(i:Int)<(p.length:Int)) ŉ ?_;unfold xa;rw[Cq.Zm,ą ß];unfold vr;rw[Cq.Zm,ą rfl];refine⟨p[i],Ξ a,by simp[small];omega,?_⟩;rw[χ ŉ];refine⟨.inr ⟨i+1,_,ŉ,rfl,?_,ab0⟩,ab0⟩;rw[<-l,ĭ a];simp
 obtain rfl:i=p.length:=ŉ;show(if((p.length:Nat):Int)<(p.length:Int)then _ else _:Cq _).wp _;rw[Cq.Zm,ā ŉ,Cq.Zm,ā ß];show _=_;rw[<-l,aaf,ę]
end Go.EL

namespace Go.EL
open Go.IntKind (i8 i16 i32 i64 u8 u16 u32 u64)
open Go Go.RowKit
structure Ì (π:M):Prop where
 ot:∀i,0<=π i/\π i<8
 inj:∀i j,π i=π j->i=j
def ep(π m:M):Nat->M
 |0=>λ_=>0
 |k+1=>if h:k<8 then ζ (ep π m k) (π ⟨k,h⟩).toNat (m ⟨k,h⟩)else ep π m k
def fx(π m:M):M:=ep π m 8
theorem SX{π:M}(h:Ì π)(m:M):∀k,k<=8->∀i:Fin 8,i.val<k->∀j:Fin 8,(j.val:Int)=π i->ep π m k j=m i
 |0,_,i,hi,_,_=>by omega
 |k+1,f,i,hi,j,c=>by
  have il:k<8:=ŉ;simp only[ep,ŷ il,ζ];have r:=h.ot ⟨k,il⟩;by_cases e:i.val=k
  .have:i=⟨k,il⟩:=abd e;subst this;rw[ą ŉ]
  have d:π i≠π ⟨k,il⟩:=λa=>e (đ Fin.val (h.inj _ _ a));rw[ā ŉ];exact SX h m k ŉ i ŉ j c
theorem RH{π:M}(h:Ì π)(m:M):∀k,k<=8->∀j:Fin 8,(∀i:Fin 8,i.val<k->π i≠(j.val:Int))->ep π m k j=0
 |0,_,_,_=>rfl
 |k+1,c,j,a=>by have il:k<8:=ŉ;have r:=h.ot ⟨k,il⟩;have:=a ⟨k,il⟩ ß;simp only[ep,ŷ il,ζ];rw[ā ŉ];exact RH h m k ŉ j λi hi=>a i ŉ
theorem Ll{π m:M}(a:Ok m):∀k,Ok (ep π m k)
 |0=>λ_=>by simp[ep]
 |k+1=>λj=>by
  simp only[ep];split
  .rename_i c;simp only[ζ];split
   .exact a _
   exact Ll a k j
  exact Ll a k j
theorem T5{π m:M}(a:Ok m):Ok (fx π m):=Ll a 8
theorem ug{π:M}(h:Ì π)(m:M)(i j:Fin 8)(a:(j.val:Int)=π i):fx π m j=m i:=SX h m 8 ŉ i i.isLt j a
theorem Lj{π:M}(h:Ì π){a b:M}(e:fx π a=fx π b):a=b:=by funext i;have r:=h.ot i;have c:=ug h a i ⟨(π i).toNat,ŉ⟩ ab0;have h2:=ug h b i ⟨(π i).toNat,ŉ⟩ ab0;rw[<-c,<-h2,e]
theorem K3(f:M)(x:Int)(q:Nat):∀k,k<=8->fC (ζ f q x) k=fC f k+(if h:q<8 then(if q<k then x-f ⟨q,h⟩else 0)else 0)
 |0,_=>by simp[fC]
 |k+1,d=>by
  have il:k<8:=ŉ;simp only[fC,ŷ il,K3 f x q k ŉ,ζ];by_cases e:k=q
  .subst e;simp[il];omega
  rw[ā e];by_cases a:q<8
  .simp only[ŷ a];by_cases c:q<k
   .rw[ą c,ą ŉ];omega
   rw[ā c,ā ŉ];omega
  simp only[dif_neg a];omega
theorem K2{π:M}(h:Ì π)(m:M):fG (fx π m)=fG m:=by
 have key:∀k,k<=8->fG (ep π m k)=fC m k:=by
  intro k;induction k with
  |zero=>intro _;simp[ep,fG,fC]
  |succ k c=>
   intro e;have il:k<8:=ŉ;have r:=h.ot ⟨k,il⟩;have a:(π ⟨k,il⟩).toNat<8:=ŉ;simp only[ep,ŷ il,fC];unfold fG at c⊢;rw[K3 _ _ _ 8 ŉ,ŷ a,ą a,c ŉ];have:ep π m k ⟨(π ⟨k,il⟩).toNat,a⟩=0:=RH h m k ŉ _ λi hi d=>by
    have:π i=π ⟨k,il⟩:=by simp at d;omega
    have:=đ Fin.val (h.inj _ _ this);simp at this;omega
   rw[this];omega
 exact key 8 ŉ
theorem Zw6{π:M}(h:Ì π)(x:Za):(Po π x (0,λ_=>0)).Γ (fx π x.m):=by
 refine Cq.Zo 8 (λk s=>s=((k:Int),ep π x.m k)) (λk s a c=>?_) (λs c=>?_) rfl
 .subst c;have r:=h.ot ⟨k,a⟩;refine Cq.wp.yes (p:=(k:Int)<8) ŉ ?_;refine⟨ŉ,ŉ,by rw[Õ a];exact r,?_⟩;show _=_;rw[χ ŉ,Õ a,Õ a];simp only[ep,ŷ a]
 subst c;refine Cq.wp.no (p:=((8:Nat):Int)<8) ŉ ?_;rfl
theorem ZvA{π:M}(h:Ì π){p:Ŀ Za}{k:Nat}(d:k<p.length):(PU p π (k:Int) (0,λ_=>0)).Γ (fx π p[k].m):=by
 refine Cq.Zo 8 (λj s=>s=((j:Int),ep π p[k].m j)) (λj s a c=>?_) (λs c=>?_) rfl
 .subst c;have r:=h.ot ⟨j,a⟩;refine Cq.wp.yes (p:=(j:Int)<8) ŉ ?_;refine⟨ŉ,p[k],Ξ d,ŉ,by rw[Õ a];exact r,?_⟩;show _=_;rw[χ ŉ,Õ a,Õ a];simp only[ep,ŷ a]
 subst c;refine Cq.wp.no (p:=((8:Nat):Int)<8) ŉ ?_;rfl
theorem Gn{π:M}(h:Ì π){k:Nat}(a:k<8){c:Fin 8->Bool}(d:∀j,c j=true->∃i:Fin 8,i.val<k/\(j.val:Int)=π i):¬Η c (π ⟨k,a⟩)=true:=by
 have r:=h.ot ⟨k,a⟩;rw[zg c (show(π ⟨k,a⟩).toNat<8 by omega)];intro e;obtain⟨i,f,h2⟩:=d _ e;have:π i=π ⟨k,a⟩:=by simp at h2;omega
 have:=đ Fin.val (h.inj _ _ this);simp at this;omega
theorem FB{π:M}(h:Ì π){k:Nat}(c:k<8){d:Fin 8->Bool}(e:∀j,d j=true->∃i:Fin 8,i.val<k/\(j.val:Int)=π i):∀j,ζ d (π ⟨k,c⟩).toNat true j=true->∃i:Fin 8,i.val<k+1/\(j.val:Int)=π i:=by
 intro j a;have r:=h.ot ⟨k,c⟩;simp only[ζ]at a;split at a
 .exact⟨⟨k,c⟩,ß,ŉ⟩
 obtain⟨i,f,h2⟩:=e j a;exact⟨i,ŉ,h2⟩
theorem ZkU{π:M}(h:Ì π):(Jc π).Γ true:=by
 show(Cq.next _ _).wp _;refine Cq.Zo 8 (λk s=>∃a:Fin 8->Bool,s=((k:Int),a)/\∀j,a j=true->∃i:Fin 8,i.val<k/\(j.val:Int)=π i) (λk s c e=>?_) (λs e=>?_) ⟨_,rfl,λj f=>by cases f⟩
 .obtain⟨a,rfl,d⟩:=e;have r:=h.ot ⟨k,c⟩;refine Cq.wp.yes (p:=(k:Int)<8) ŉ ?_;refine⟨ŉ,?_⟩;rw[Õ c,Cq.Zm,ā ŉ];refine⟨ŉ,?_⟩;rw[Cq.Zm,ā ŉ];refine⟨ŉ,r,?_⟩;rw[Cq.Zm,ā (Gn h c d)];refine⟨ŉ,r,?_⟩;rw[χ ŉ];exact⟨_,rfl,FB h c d⟩
 obtain⟨a,rfl,d⟩:=e;refine Cq.wp.no (p:=((8:Nat):Int)<8) ŉ ?_;rfl
end Go.EL

namespace Go.EL
open Go.IntKind (i8 i16 i32 i64 u8 u16 u32 u64)
open Go Go.RowKit
def jg(π:M)(t:Za):Za:=⟨t.c,fx π t.m⟩
def gD(π:M)(l:Ŀ Za):Ŀ Za:=l.foldl (λa t=>gh a (jg π t)) []
def Ο(π:M)(p:Ŀ Za):Ŀ Za:=gD π p
theorem ZxP{p:Ŀ Za}{t:Za}:(∀x∈p,x.m≠t.m)->(gh p t).Perm (t::p):=by
 induction p with
 |nil=>intro _;exact x5 _
 |cons x xs d=>
  intro h;have a:=h x ß;simp only[gh];split
  .exact ((d λy c=>h y (by simp[c])).cons x).trans (List.Perm.swap _ _ _)
  split
  .exact x5 _
  exact absurd (uk ŉ) a
theorem ZpC{a b c:M}(d:0<Ý a b)(h2:0<Ý b c):0<Ý a c:=by have e:=ub a b;have k2:=ub b c;have k3:=ub a c;have:=JV (a:=c) (b:=b) (c:=a) ŉ ŉ (.inl ŉ);omega
abbrev jo(p:Ŀ Za):Prop:=p.Pairwise λx y=>0<Ý x.m y.m
theorem Sz{p:Ŀ Za}{t:Za}:jo p->jo (gh p t)/\∀z,(∀x∈p,0<Ý z x.m)->0<Ý z t.m->∀y∈gh p t,0<Ý z y.m:=by
 induction p with
 |nil=>intro _;exact⟨by simp[gh],λz _ h y a=>by simp[gh]at a;subst a;exact h⟩
 |cons x xs l=>
  intro g;obtain⟨e,h2⟩:=Į.1 g;obtain⟨k,i⟩:=l h2;simp only[gh];split
  .rename_i f;refine⟨Į.2 ⟨i _ e f,k⟩,λz c d y a=>?_⟩;rcases Ď.1 a with rfl|a
   .exact c _ ß
   exact i z (λw j=>c w (by simp[j])) d y a
  split
  .rename_i f;have nG:0<Ý t.m x.m:=by have:=ub x.m t.m;omega
   refine⟨Į.2 ⟨λy a=>?_,g⟩,λz c d y a=>?_⟩
   .rcases Ď.1 a with rfl|a
    .exact nG
    exact ZpC nG (e y a)
   rcases Ď.1 a with rfl|a
   .exact d
   exact c y a
  split
  .exact⟨h2,λz c _ y a=>c y (by simp[a])⟩
  refine⟨Į.2 ⟨e,h2⟩,λz c _ y a=>?_⟩;rcases Ď.1 a with rfl|a
  .exact c x ß
  exact c y (by simp[a])
theorem QU(π:M)(l:Ŀ Za)(t:Za):gD π (l++[t])=gh (gD π l) (jg π t):=by simp[gD,abf]
theorem EZ{p:Ŀ Za}(h:jo p):p.Pairwise λx y=>x.m≠y.m:=h.imp λhp e=>by rw[e,A5]at hp;omega
theorem KR{π:M}(h:Ì π){p:Ŀ Za}(d:jo p):∀k,k<=p.length->(gD π (p.take k)).Perm ((p.take k).map (jg π))/\jo (gD π (p.take k))
 |0,_=>by simp[gD]
 |k+1,l=>by
  obtain⟨c,h2⟩:=KR h d k ŉ;have il:k<p.length:=ŉ;rw[<-ţ il,QU];refine⟨?_,(Sz h2).1⟩;have a:∀x∈gD π (p.take k),x.m≠(jg π p[k]).m:=by intro x g e;obtain⟨y,j,rfl⟩:=Ğ.1 (c.mem_iff.1 g);have f:=Lj h e;obtain⟨i,hi,rfl⟩:=ķ.1 j;simp only[Č]at hi;rw[aad]at f;exact Ģ.1 (EZ d) i k ŉ il ŉ f
  refine(ZxP a).trans ?_;rw[Ī];exact(c.cons _).trans (List.perm_append_comm (l₁:=[jg π p[k]]))
theorem rh{π:M}(h:Ì π){p:Ŀ Za}(a:jo p):(Ο π p).Perm (p.map (jg π))/\jo (Ο π p):=by have:=KR h a p.length ŉ;rwa [Ħ]at this
theorem Z1{π:M}(h:Ì π){p:Ŀ Za}(hp:Β p):Β (Ο π p):=by obtain⟨a,h2⟩:=rh h hp.ord;refine⟨h2,λt d=>?_,by rw[a.length_eq,ć];exact hp.len⟩;obtain⟨y,c,rfl⟩:=Ğ.1 (a.mem_iff.1 d);exact⟨(hp.tm y c).c,T5 (hp.tm y c).m⟩
theorem Ji{π:M}(h:Ì π){p:Ŀ Za}(hp:Β p):(AA p π).Γ (Ο π p,0):=by
 have l:=hp.len;refine⟨true,ZkU h,?_⟩;show(Cq.next _ _).wp _;refine Cq.Zo p.length (λk s=>s=(gD π (p.take k),(k:Int))) (λk s a c=>?_) (λs c=>?_) (by simp[gD])
 .subst c;obtain⟨d,h2⟩:=KR h hp.ord k ŉ;refine Cq.wp.yes (p:=(k:Int)<(p.length:Int)) ŉ ?_;refine(ZvA h a).then ?_;refine⟨p[k],Ξ a,_,QS (by rw[d.length_eq,ć,Č];omega) (λx g e=>?_),?_⟩
  .obtain⟨y,j,rfl⟩:=Ğ.1 (d.mem_iff.1 g);have f:=Lj h e;obtain⟨i,hi,rfl⟩:=ķ.1 j;simp only[Č]at hi;rw[aad]at f;exact absurd f (Ģ.1 (EZ hp.ord) i k ŉ a ŉ)
  show _=_;rw[χ ŉ,<-ţ a,QU];rfl
 subst c;refine Cq.wp.no (p:=((p.length:Nat):Int)<(p.length:Int)) ŉ ?_;show _=_;rw[Ħ];rfl
end Go.EL

namespace Go.EL
open Go.IntKind (i8 i16 i32 i64 u8 u16 u32 u64)
open Go Go.RowKit
theorem ZzO:(ã 0 100 λn=>match(tZ (u64.wrap n)).ev 30 with|some v=>decide (0<=v/\v<1000000)|none=>false)=true:=by decide +kernel
theorem ZzP{n:Nat}(h:n<=100):∃v,(tZ (u64.wrap (n:Int))).Γ v/\0<=v/\v<1000000:=by
 have:=Zq ZzO (x:=(n:Int)) ŉ ŉ;split at this
 .rename_i v a;have:=ĥ this;exact⟨v,Cq.Γ.mf 30 a,this.1,this.2⟩
 cases this
theorem Zzl{p:Ŀ Za}(h:jo p){x y:Za}(d:x∈p)(f:y∈p)(e:x.m=y.m):x=y:=by
 obtain⟨i,hi,rfl⟩:=ķ.1 d;obtain⟨j,c,rfl⟩:=ķ.1 f;have key:=Ģ.1 (EZ h);rcases aau i j with a|a|a
 .exact absurd e (key i j hi c a)
 .subst a;rfl
 exact absurd e.symm (key j i c hi a)
theorem SO{p:Ŀ Za}(h:jo p):p.Pairwise λx y=>¬Ý x.m y.m<0:=h.imp λhp=>by omega
theorem Sh{p ys:Ŀ Za}(c:jo p)(hp:ys.Perm p)(f:ys.Pairwise λx y=>¬Ý x.m y.m<0):ys=p:=
 abl (le:=λx y:Za=>¬Ý x.m y.m<0) (λa b d e g h2=>by
  have:=ub a.m b.m;exact Zzl c (hp.mem_iff.1 d) e (uk ŉ)) f (SO c) hp
theorem Zrd{p l:Ŀ Za}(c:jo p)(f:p.length<=100)(hp:l.Perm p):(ZK l).Γ p:=by have e:=hp.length_eq;obtain⟨v,a,h2,h3⟩:=ZzP (n:=l.length) ŉ;refine⟨v,a,p,?_,rfl⟩;refine⟨⟨rfl,rfl,⟨h2,h3⟩,ŉ⟩,λys ⟨d,k2⟩=>?_⟩;exact Sh c (d.trans hp) k2
def kT(q:M×Zf):Za:=⟨q.2,q.1⟩
theorem ZvM{p:Ŀ Za}(hp:Β p){D:Ŀ (M×Zf)}(j:(D.map kT).Perm p):(Je D).Γ p:=by
 have l:=hp.len;have e:=j.length_eq;rw[ć]at e;refine⟨⟨ŉ,ŉ⟩,?_⟩;show(Cq.next _ _).wp _;refine Cq.LN (λs=>(s.1++s.2.map kT).Perm p) (λs=>s.2.length) (λs d=>?_) _ (by simpa using j);obtain⟨rv,R⟩:=s;simp only at d;have c:=d.length_eq;simp only[Ā,ć]at c;refine⟨λi=>?_,λg q h i=>?_⟩
 .subst i;rw[ő,ę]at d;exact⟨_,Zrd hp.ord l d,rfl⟩
 subst i;have f:kT q∈p:=d.mem_iff.1 ß;obtain⟨s,k,h2⟩:=(hp.tm _ f).ps;refine⟨s,k,?_⟩;rw[Cq.Zm,ą h2];simp only[Ā,Ě]at c;refine⟨by simp[small];omega,?_,?_⟩
 .refine List.Perm.trans ?_ d;simp only[Ī,ġ,Đ,List.singleton_append];refine List.Perm.append_left rv ?_;exact(List.perm_middle (a:=kT q) (l₁:=g.map kT) (l₂:=h.map kT)).symm
 show(g++h).length<(g++q::h).length;simp
theorem ZBg{m:M}(h:Ok m):∀i,(Lit.int i64 (m i)).wf=true:=λi=>by have:=h i;simp only[Lit.wf,Ĉ,Ę];exact⟨dO ĳ this.1,dO this.2 ĳ⟩
def sL(π:M)(t:Za):M×Zf:=(fx π t.m,t.c)
theorem Ay{π:M}(h:Ì π){p:Ŀ Za}(hp:Β p):(Z8 p π).Γ (Ο π p,0):=by
 have u:=hp.len;show(Cq.next _ _).wp _;refine Cq.Zo 8 (λk s=>∃f:Fin 8->Bool,s=((k:Int),f)/\∀j,f j=true->∃i:Fin 8,i.val<k/\(j.val:Int)=π i) (λk s a d=>?_) (λs d=>?_) ⟨_,rfl,λj m=>by cases m⟩
 .obtain⟨f,rfl,g⟩:=d;have r:=h.ot ⟨k,a⟩;refine Cq.wp.yes (p:=(k:Int)<8) ŉ ?_;refine⟨ŉ,?_⟩;rw[Õ a,Cq.Zm,ā ŉ,Cq.Zm,ā ŉ];refine⟨r,?_⟩;rw[Cq.Zm,ā (Gn h a g)];refine⟨r,?_⟩;rw[χ ŉ];exact⟨_,rfl,FB h a g⟩
 obtain⟨f,rfl,g⟩:=d;refine Cq.wp.no (p:=((8:Nat):Int)<8) ŉ ?_;show(Pp p π).wp _;show(Cq.next _ _).wp _;refine Cq.Zo p.length (λk s=>s=((k:Int),(p.take k).map (sL π))) (λk s a d=>?_) (λs d=>?_) ß
 .subst d;refine Cq.wp.yes (p:=(k:Int)<(p.length:Int)) ŉ ?_;refine⟨p[k],Ξ a,?_⟩;refine(Zw6 h p[k]).then ?_;have c:eV ((p.take k).map (sL π)) (fx π p[k].m) p[k].c=(p.take (k+1)).map (sL π):=by
   rw[F6,<-ţ a,Ī]
   .rfl
   intro q n e;obtain⟨y,t,rfl⟩:=Ğ.1 n;have l:=Lj h e;obtain⟨i,hi,rfl⟩:=ķ.1 t;simp only[Č]at hi;rw[aad]at l;exact Ģ.1 (EZ hp.ord) i k ŉ a ŉ l
  refine⟨⟨ZBg (T5 (hp.at a).m),?_⟩,?_⟩
  .rw[c,ć,Č];simp only[small];omega
  show _=_;rw[c,χ ŉ]
 subst d;refine Cq.wp.no (p:=((p.length:Nat):Int)<(p.length:Int)) ŉ ?_;refine⟨Ο π p,ZvM (Z1 h hp) ?_,rfl⟩;rw[Ħ,eu];exact(rh h hp.ord).1.symm
end Go.EL

namespace Go.EL
open Go.IntKind (i8 i16 i32 i64 u8 u16 u32 u64)
open Go Go.RowKit
theorem Tg{n:Int}(a:-8<=n)(h2:n<=8):(ZX n).Γ (ý n):=Zr (Zq Zxz a h2)
theorem mul_zero(m:M):mulM (λ_=>0) m=m:=by funext i;simp[mulM]
theorem Zv4{c:Int}(g:-3<=c)(h2:c<=3){m:M}(f:Ok m):(Lb (ý c) [⟨ý 1,m⟩]).Γ (if c=0 then[]else[⟨ý c,m⟩]):=by
 have d:=Zr (Zq FY (x:=c) ŉ ŉ);by_cases e:c=0
 .subst e;rw[ą rfl];refine⟨([],0),⟨_,d,?_⟩,rfl⟩;rw[Cq.Zm,ą ĳ];rfl
 rw[ā e];refine⟨([⟨ý c,m⟩],0),⟨_,d,?_⟩,rfl⟩;rw[Cq.Zm,ā (by split<;>first|omega|(split<;>omega))];show(Cq.next _ _).wp _;refine Cq.Zo 1 (λk s=>s=((if k=0 then[]else[⟨ý c,m⟩]),(k:Int))) (λk s i d=>?_) (λs d=>?_) rfl
 .obtain rfl:k=0:=ŉ;subst d;refine⟨⟨ý 1,m⟩,⟨ŉ,rfl⟩,(m,0),?_,?_⟩
  .have:=QO (a:=λ_=>0) (b:=m) (λ_=>⟨ŝ 0,show(0:Int)<=65535 by decide⟩) f (by rw[mul_zero];exact f);rwa [mul_zero]at this
  rw[Cq.Zm,ā (λh=>h rfl)];exact⟨⟨ý 1,m⟩,⟨ŉ,rfl⟩,_,Zr (Zq ZzU g h2),by simp[small],rfl⟩
 subst d;rfl
def ja(x:Zu):Prop:=∀v∈x.t,∀j:Fin 5,-128<=v j/\v j<=127
structure gP (K:Int) (n:Nat) (d:Int) (k:Nat) (p:Ŀ Za):Prop where
 ord:jo p
 BP:∀t∈p,∃c:Int,t.c=ý c/\c≠0/\-K<=c/\c<=K
 yc:∀t∈p,(∀i,0<=t.m i)/\(∀i:Fin 8,n<=i.val->t.m i=0)/\fG t.m<=d
 len:p.length<=k
theorem LL{m:M}(h:∀i,0<=m i):∀k,k<=8->0<=fC m k/\∀i:Fin 8,i.val<k->m i<=fC m k
 |0,_=>by simp[fC]
 |k+1,c=>by
  obtain⟨a,h2⟩:=LL h k ŉ;have il:k<8:=ŉ;have:=h ⟨k,il⟩;simp only[fC,ŷ il];refine⟨ŉ,λi hi=>?_⟩;by_cases e:i.val=k
  .have:i=⟨k,il⟩:=abd e;subst this;omega
  have:=h2 i ŉ;omega
theorem SR{m:M}(h:∀i,0<=m i){d:Int}(a:fG m<=d)(h2:d<=65535):Ok m:=λi=>by have:=(LL h 8 ŉ).2 i i.isLt;unfold fG at a;exact⟨h i,ŉ⟩
theorem gP.hN{K:Int}{n:Nat}{d:Int}{k:Nat}{p:Ŀ Za}(h:gP K n d k p)(i:K<=12)(j:d<=100)(l:k<=100):Β p:=
 ⟨h.ord,λt a=>⟨by obtain⟨c,e,f,g,h2⟩:=h.BP t a;exact⟨c,e,f,ŉ,ŉ⟩,SR (h.yc t a).1 (h.yc t a).2.2 ŉ⟩,by have:=h.len;omega⟩
theorem TO{p:Ŀ Za}{t y:Za}:y∈gh p t->y∈p\/y=t\/∃x∈p,x.m=t.m/\jl x.c+jl t.c≠0/\y=⟨ý (jl x.c+jl t.c),x.m⟩:=by
 induction p with
 |nil=>intro h;simp[gh]at h;exact .inr (.inl h)
 |cons x xs e=>
  intro h;simp only[gh]at h;split at h
  .rcases Ď.1 h with rfl|h
   .exact .inl ß
   rcases e h with h|h|⟨z,c,h2⟩
   .exact .inl (by simp[h])
   .exact .inr (.inl h)
   exact .inr (.inr ⟨z,by simp[c],h2⟩)
  split at h
  .rcases Ď.1 h with rfl|h
   .exact .inr (.inl rfl)
   exact .inl h
  have d:x.m=t.m:=uk ŉ;split at h
  .exact .inl (by simp[h])
  rename_i a;rcases Ď.1 h with rfl|h
  .exact .inr (.inr ⟨x,ß,d,a,rfl⟩)
  exact .inl (by simp[h])
theorem gP.add{K:Int}{n:Nat}{d:Int}{k:Nat}{p:Ŀ Za}(h:gP K n d k p){c:Int}{m:M}(y:0<=K)(r:c≠0)(v:-3<=c)(h2:c<=3)(s:(∀i,0<=m i)/\(∀i:Fin 8,n<=i.val->m i=0)/\fG m<=d):
  gP (K+3) n d (k+1) (gh p ⟨ý c,m⟩):=by
 refine⟨(Sz h.ord).1,λt g=>?_,λt g=>?_,by have:=Rr p ⟨ý c,m⟩;have:=h.len;omega⟩
 .rcases TO g with g|rfl|⟨x,j,l,f,rfl⟩
  .obtain⟨a,e,q,u,k2⟩:=h.BP t g
   exact⟨a,e,q,ŉ,ŉ⟩
  .exact⟨c,rfl,r,ŉ,ŉ⟩
  obtain⟨a,e,q,u,k2⟩:=h.BP x j
  simp only[Lm,e]at f⊢
  exact⟨a+c,rfl,f,ŉ,ŉ⟩
 rcases TO g with g|rfl|⟨x,j,l,f,rfl⟩
 .exact h.yc t g
 .exact s
 exact h.yc x j
theorem gP.grow{K K':Int}{n:Nat}{d:Int}{k k':Nat}{p:Ŀ Za}(h:gP K n d k p)(g:K<=K')(h2:k<=k'):gP K' n d k' p:=
 ⟨h.ord,λt c=>by obtain⟨a,e,f,i,k2⟩:=h.BP t c;exact⟨a,e,f,ŉ,ŉ⟩,h.yc,by have:=h.len;omega⟩
theorem gP.Ol{K:Int}{n:Nat}{d:Int}{k:Nat}{p:Ŀ Za}(h:gP K n d k p)(i:K<=12){c:Int}{m:M}(f:-3<=c)(h2:c<=3):wQ p ⟨ý c,m⟩:=λx g _=>by obtain⟨a,e,j,l,k2⟩:=h.BP x g;exact⟨a,c,e,rfl,ŉ,ŉ,f,h2⟩
def nP(n:Int):Int:=if n<0 then -n else n
theorem Zza{n:Int}(a:-128<=n)(h2:n<=127):(Gg n).Γ (nP n):=by
 unfold Gg nP;by_cases h:n<0
 .rw[ą h,ą h];show _=_;simp(disch:=omega) only[wrap64];omega
 rw[ā h,ā h];exact wrap64 ŉ
theorem zm{a b:Int}(c:0<=a)(d:0<b):0<=Int.tmod a b/\Int.tmod a b<b:=by rw[ŕ c];exact⟨Int.emod_nonneg _ ŉ,Int.emod_lt_of_pos _ d⟩
theorem DJ{a:Int}(c:-128<=a)(h2:a<=127):-3<=Int.tmod a 4/\Int.tmod a 4<=3:=by
 by_cases h:0<=a
 .have:=zm (b:=4) h ŉ;omega
 have:=zm (a:=-a) (b:=4) ŉ ŉ;rw[Int.neg_tmod]at this;omega
def gq(v:Fin 5->Int)(d:Int):Nat->Int×M
 |0=>(d,λ_=>0)
 |j+1=>((gq v d j).1-Int.tmod (nP (Η v ((j+1:Nat):Int))) ((gq v d j).1+1),ζ (gq v d j).2 j (Int.tmod (nP (Η v ((j+1:Nat):Int))) ((gq v d j).1+1)))
theorem L0{v:Fin 5->Int}{d:Int}(a:0<=d):∀j,j<=4->0<=(gq v d j).1/\(∀i,0<=(gq v d j).2 i)/\(∀i:Fin 8,j<=i.val->(gq v d j).2 i=0)/\fG (gq v d j).2+(gq v d j).1=d
 |0,_=>⟨a,λ_=>ŝ 0,λ_ _=>rfl,by simp[gq,fG,fC]⟩
 |j+1,h=>by
  obtain⟨g,c,h2,h3⟩:=L0 (v:=v) a j ŉ;have e:0<=nP (Η v ((j+1:Nat):Int)):=by unfold nP;split<;>omega
  have f:=zm e (show 0<(gq v d j).1+1 by omega);simp only[gq];refine⟨ŉ,λi=>?_,λi hi=>?_,?_⟩
  .simp only[ζ];split
   .exact f.1
   exact c i
  .simp only[ζ];rw[ā ŉ];exact h2 i ŉ
  unfold fG at h3⊢;rw[K3 _ _ _ 8 ŉ,ŷ ŉ,ą ŉ,h2 _ ß];omega
def qX(v:Fin 5->Int)(d:Int)(n:Nat):M:=(gq v d n).2
theorem Vh{v:Fin 5->Int}{d:Int}(c:0<=d){n:Nat}(e:n<=4):(∀i,0<=qX v d n i)/\(∀i:Fin 8,n<=i.val->qX v d n i=0)/\fG (qX v d n)<=d:=by obtain⟨f,a,h2,h3⟩:=L0 (v:=v) c n e;exact⟨a,h2,by unfold qX;omega⟩
theorem ZvS{x:Zu}(t:ja x){n:Nat}(D:n<=4){d:Int}(c:0<=d)(A:d<=100){k:Nat}(m:k<x.t.length):
  (Rg x (n:Int) (k:Int) (d,0,λ_=>0)).Γ (qX x.t[k] d n):=by
 refine Cq.Zo n (λj s=>s=((gq x.t[k] d j).1,(j:Int),(gq x.t[k] d j).2)) (λj s B g=>?_) (λs g=>?_) rfl
 .subst g
  obtain⟨u,q,h2,h3⟩:=L0 (v:=x.t[k]) c j ŉ
  have y:=(LL q 8 ŉ).1
  have f:j<8:=ŉ
  have hr:=t _ (ă m)
  show(if(j:Int)<(n:Int)then _ else _:Cq _).wp _
  rw[Cq.Zm,ą ŉ,Cq.Zm,ą ŉ]
  have r:i64.wrap (1+(j:Int))=((j+1:Nat):Int):=by rw[wrap64 ŉ];omega
  have i:i64.wrap ((gq x.t[k] d j).1+1)=(gq x.t[k] d j).1+1:=wrap64 (by unfold fG at h3;omega)
  rw[r,i]
  have l:Η x.t[k] ((j+1:Nat):Int)=x.t[k] ⟨j+1,ŉ⟩:=zg _ ab0
  have C:=zm (a:=nP (Η x.t[k] ((j+1:Nat):Int))) (b:=(gq x.t[k] d j).1+1) (by unfold nP;split<;>omega) ŉ
  refine⟨x.t[k],Ξ m,ŉ,_,Zza (by rw[l];exact(hr _).1) (by rw[l];exact(hr _).2),ŉ,ŉ,ŉ,?_⟩
  show _=_
  have h:∀e:Int,Η (ζ (gq x.t[k] d j).2 (j:Int).toNat e) (j:Int)=e:=λe=>by rw[Õ f];simp[ζ]
  rw[h,χ ŉ,wrap64 (by unfold fG at h3;omega)]
  rfl
 subst g
 refine Cq.wp.no (p:=(n:Int)<(n:Int)) ŉ ?_
 rfl
def gU(x:Zu)(n:Nat)(d:Int):Nat->Ŀ Za
 |0=>[]
 |k+1=>match x.t[k]? with
  |some v=>if Int.tmod (Η v 0) 4=0 then gU x n d k else gh (gU x n d k) ⟨ý (Int.tmod (Η v 0) 4),qX v d n⟩
  |none=>gU x n d k
theorem Db{x:Zu}(c:ja x){v:Fin 5->Int}(a:v∈x.t):-3<=Int.tmod (Η v 0) 4/\Int.tmod (Η v 0) 4<=3:=by have:=c v a 0;rw[zg v ĳ];exact DJ this.1 this.2
theorem KV{x:Zu}(g:ja x){n:Nat}(f:n<=4){d:Int}(e:0<=d):∀k:Nat,gP (3*k) n d k (gU x n d k)
 |0=>⟨List.Pairwise.nil,λt a=>by simp[gU]at a,λt a=>by simp[gU]at a,by simp[gU]⟩
 |k+1=>by
  have c:=KV g f e k;simp only[gU];split
  .rename_i v i;have hr:=Db g (ń i);split
   .exact c.grow ŉ ŉ
   rename_i h;exact(c.add ŉ h hr.1 hr.2 (Vh e f)).grow ŉ ŉ
  exact c.grow ŉ ŉ
def iE(x:Zu)(n:Nat)(d:Int)(k:Nat):Ŀ Za:=gU x n d (min k x.t.length)
theorem Zyd{x:Zu}(e:ja x){n:Nat}(c:n<=4){d:Int}(a:0<=d)(k:Nat):gP (3*k) n d k (iE x n d k):=(KV e c a _).grow ŉ ŉ
theorem Lw{x:Zu}(g:ja x){n:Nat}(e:n<=4){d:Int}(a:0<=d)(p:d<=100){k:Nat}(t:k<=4):(Bi x (n:Int) d (k:Int)).Γ (iE x n d k):=by
 refine Cq.Zo (min k x.t.length) (λj s=>s=(gU x n d j,(j:Int))) (λj s r f=>?_) (λs f=>?_) rfl
 .subst f;have kg:j<x.t.length:=ŉ;have m:=KV g e a j;have hr:=Db g (ă kg);show(if(j:Int)<(x.t.length:Int)then _ else _:Cq _).wp _;rw[Cq.Zm,ą ŉ,Cq.Zm,ą ŉ];show(Cq.next _ _).wp _;refine(ZvS g e a p kg).then ?_;have q:i64.wrap (Int.tmod (Η x.t[j] 0) 4)=Int.tmod (Η x.t[j] 0) 4:=wrap64 ŉ;have l:=Vh (v:=x.t[j]) a e;refine⟨x.t[j],Ξ kg,_,(by rw[q];exact Tg ŉ ŉ),_,Tg ŉ ŉ,_,Zv4 hr.1 hr.2 (SR l.1 l.2.2 ŉ),?_⟩;have i:=m.len;by_cases c:Int.tmod (Η x.t[j] 0) 4=0
  .rw[ą c];refine⟨_,ZsU ŉ,?_⟩;show _=_;rw[χ ŉ];simp only[gU,Ą kg,ą c]
  rw[ā c];refine⟨_,QS ŉ (m.Ol ŉ hr.1 hr.2),?_⟩;show _=_;rw[χ ŉ];simp only[gU,Ą kg,ā c]
 subst f;show(if((min k x.t.length:Nat):Int)<(x.t.length:Int)then _ else _:Cq _).wp _;by_cases h:min k x.t.length<x.t.length
 .rw[Cq.Zm,ą ŉ,Cq.Zm,ā ŉ];rfl
 rw[Cq.Zm,ā ŉ];rfl
end Go.EL

namespace Go.EL
open Go.IntKind (i8 i16 i32 i64 u8 u16 u32 u64)
open Go Go.RowKit
theorem qG{x:Int}(h:0<=x/\x<18446744073709551616):u64.wrap x=x:=by simp only[IntKind.wrap,IntKind.bits,IntKind.signed,Ŷ,ś,aaK];omega
def uQ(x:Int):Ŀ Int:=if x=0 then[]else[x]
def ä(n:Int):Zg:=⟨decide (n<0),uQ (n.natAbs:Int)⟩
theorem Zyv(n:Int):ý n=⟨ä n,⟨false,[1]⟩⟩:=by
 unfold ý ä uQ;by_cases h:n=0
 .subst h;rfl
 rw[ā h,ā ŉ]
end Go.EL

namespace Go.EL
open Go.IntKind (i8 i16 i32 i64 u8 u16 u32 u64)
open Go Go.RowKit
theorem ZxJ{a b:M}(f:Ok a)(g:Ok b)(d:Ok (mulM a b)):(Ke a b).Γ (mulM a b,0):=by
 show(Cq.next _ _).wp _;refine Cq.Zo 8 (λk s=>s=((k:Int),lS k (mulM a b) a)) (λk s c e=>?_) (λs e=>?_) (by rw[TL];rfl)
 .subst e;have h:=f ⟨k,c⟩;have h2:=g ⟨k,c⟩;rw[Cq.Zm,ą ŉ];refine⟨ŉ,ŉ,ŉ,?_⟩;show _=_;rw[χ ŉ,Õ c,Õ c,Vp,wrap64 ŉ];exact đ (Prod.mk _) (TK (mulM a b) a c)
 subst e;rw[Cq.Zm,ā ŉ,U7 _ _ ŉ];exact⟨true,Tc d,rfl⟩
end Go.EL

namespace Go.EL
open Go.IntKind (i8 i16 i32 i64 u8 u16 u32 u64)
open Go Go.RowKit
def ô:Ŀ Za->Nat
 |[]=>0
 |t::p=>Nat.gcd (Î t.c).natAbs (ô p)
def jD(p:Ŀ Za):Int:=match p with
 |[]=>1
 |t::_=>if Î t.c<0 then -1 else 1
def fJ(s:Int)(g:Nat)(c:Zf):Zf:=ý (s*(Î c / (g:Int)))
def à(p:Ŀ Za):Ŀ Za:=p.map λt=>⟨fJ (jD p) (ô p) t.c,t.m⟩
theorem Zya:(ã 0 12 λa=>ã (-12) 12 λb=>runs 60 (xl (ä a) (ä b)) (ä (Nat.gcd a.natAbs b.natAbs:Nat)))=true:=by decide +kernel
theorem ZyB:(ã 0 12 λa=>ã (-12) 12 λb=>runs 60 (xz (ä a) (ä b)) (ä (Nat.gcd a.natAbs b.natAbs:Nat)))=true:=by decide +kernel
theorem Zyb:(ã 1 12 λg=>runs 60 (Ew (ä 1) (ä g)) (⟨ä 1,ä g⟩,0)&&runs 60 (Ew (ä (-1)) (ä g)) (⟨ä (-1),ä g⟩,0))=true:=by decide +kernel
theorem ZyC:(ã 1 12 λg=>runs 60 (Gd (ä 1) (ä g)) (⟨ä 1,ä g⟩,0)&&runs 60 (Gc ⟨ä 1,ä g⟩) ⟨ä (-1),ä g⟩)=true:=by decide +kernel
theorem ZwP:(ã 1 12 λg=>ã (-12) 12 λn=>n == 0 || n % g != 0 || (runs 60 (Z9 ⟨ä 1,ä g⟩ (ý n)) (ý (1*(n / g)))&&runs 60 (Z9 ⟨ä (-1),ä g⟩ (ý n)) (ý (-1*(n / g)))))=true:=by decide +kernel
theorem Zxi:(ã 1 12 λg=>ã (-12) 12 λn=>n == 0 || n % g != 0 || (runs 60 (rj ⟨ä 1,ä g⟩ (ý n)) (ý (1*(n / g)))&&runs 60 (rj ⟨ä (-1),ä g⟩ (ý n)) (ý (-1*(n / g)))))=true:=by decide +kernel
theorem F5:(xl (ä 1) ⟨false,[1]⟩).Γ (ä 1)/\(Ax ⟨false,[1]⟩ (ä 1)).Γ (ä 1,ä 0,0)/\(EK (ä 1) (ä 1)).Γ (ä 1)/\(yD (ä 1)).Γ (ä (-1)):=⟨Cq.Γ.mf 60 (by decide +kernel),Cq.Γ.mf 60 (by decide +kernel),Cq.Γ.mf 60 (by decide +kernel),Cq.Γ.mf 60 (by decide +kernel)⟩
theorem F9:(xz (ä 1) ⟨false,[1]⟩).Γ (ä 1)/\(yQ ⟨false,[1]⟩ (ä 1)).Γ (ä 1,ä 0,0)/\(rb (ä 1) (ä 1)).Γ (ä 1)/\(yQ (ä 1) ⟨false,[1]⟩).Γ (ä 1,ä 0,0):=⟨Cq.Γ.mf 60 (by decide +kernel),Cq.Γ.mf 60 (by decide +kernel),Cq.Γ.mf 60 (by decide +kernel),Cq.Γ.mf 60 (by decide +kernel)⟩
theorem Zxh:(ã (-12) 12 λn=>runs 60 (rb (ä n) (ä 1)) (ä n))=true:=by decide +kernel
theorem Ue:(ã 1 12 λg=>runs 60 (ZH ⟨ä 1,ä g⟩) 1&&runs 60 (ZH ⟨ä (-1),ä g⟩) (-1)&&runs 60 (oy ⟨ä 1,ä g⟩) 1&&runs 60 (oy ⟨ä (-1),ä g⟩) (-1))=true:=by decide +kernel
theorem Β.num{p:Ŀ Za}(h:Β p){t:Za}(d:t∈p):t.c=ý (Î t.c)/\Î t.c≠0/\-12<=Î t.c/\Î t.c<=12:=by
 obtain⟨⟨n,e,a,c,h2⟩,_⟩:=h.tm t d;have:Î t.c=n:=by rw[e,pB]
 rw[this];exact⟨e,a,c,h2⟩
theorem Β.parts{p:Ŀ Za}(h:Β p){t:Za}(a:t∈p):t.c.num=ä (Î t.c)/\t.c.den=⟨false,[1]⟩:=by
 obtain⟨⟨n,e,_⟩,_⟩:=h.tm t a;have:Î t.c=n:=by rw[e,pB]
 rw[this,e,Zyv];exact⟨rfl,rfl⟩
theorem Β.gu{p:Ŀ Za}(h:Β p):Ñ p=true:=by have f:=h.len;unfold Ñ;rw[Ĉ];refine⟨Ă ŉ,Ć.2 λt d=>?_⟩;obtain⟨e,a,c,h2⟩:=h.num d;rw[e];exact Zvh a c h2
theorem Fx:∀{p:Ŀ Za}{t:Za},t∈p->ô p ∣ (Î t.c).natAbs
 |x::p,t,h=>by
  rcases Ď.1 h with rfl|h
  .exact Nat.gcd_dvd_left _ _
  exact Nat.dvd_trans (Nat.gcd_dvd_right _ _) (Fx h)
theorem xx{p:Ŀ Za}(h:Β p)(a:p≠[]):1<=ô p/\ô p<=12:=by
 match p,a with
 |t::p,_=>
  have c:=Fx (p:=t::p) (t:=t) ß;obtain⟨e,d,f,h2⟩:=h.num (t:=t) ß;have:=Nat.le_of_dvd ŉ c;have:=Nat.pos_of_dvd_of_pos c ŉ;omega
theorem xJ{p:Ŀ Za}{t:Za}(a:t∈p):Î t.c % (ô p:Int)=0:=Int.emod_eq_zero_of_dvd (Int.ofNat_dvd_left.2 (Fx a))
theorem Mm(p:Ŀ Za):jD p=1\/jD p = -1:=by
 unfold jD;split
 .exact .inl rfl
 split
 .exact .inr rfl
 exact .inl rfl
theorem Tx(p:Ŀ Za)(k:Nat)(h:k<p.length):ô (p.take (k+1))=Nat.gcd (ô (p.take k)) (Î p[k].c).natAbs:=by
 rw[č h];generalize p.take k=l;generalize p[k]=t;induction l with
 |nil=>simp[ô]
 |cons x l a=>simp only[ĸ,ô,a];rw[Nat.gcd_assoc]
theorem Tw{p:Ŀ Za}(h:Β p)(k:Nat):ô (p.take k)<=12:=by
 by_cases a:p.take k=[]
 .rw[a];exact Ĝ _
 have e:∃t,t∈p.take k:=aba _ a;obtain⟨t,c⟩:=e;have d:=Fx c;obtain⟨_,f,g,h2⟩:=h.num (Ŝ c);have:=Nat.le_of_dvd ŉ d;omega
theorem U9{m:M}(h:Ok m):Ok (mulM (λ_=>0) m):=by rw[mul_zero];exact h
theorem Ot:Ok λ_=>0:=λ_=>⟨ŝ 0,(by decide:(0:Int)<=65535)⟩
theorem R6{c:Zf}{f:Zf->Zf}{p:Ŀ Za}(j:p.length<=100)(e:∀t∈p,Ok t.m){s:Int}(d:(ZH c).Γ s)(g:s≠0)(i:∀t∈p,(Z9 c t.c).Γ (f t.c)):
  (Js c (λ_=>0) p).Γ (p.map λt=>⟨f t.c,t.m⟩,0):=by
 refine⟨s,d,Cq.wp.no g ⟨⟨ŉ,ŉ⟩,?_⟩⟩
 refine Cq.Zo p.length (λk s=>s=((p.take k).map λt=>⟨f t.c,t.m⟩,(k:Int))) (λk s a d=>?_) (λs d=>?_) rfl
 .subst d
  refine Cq.wp.yes ŉ ⟨p[k],Ξ a,_,ZxJ Ot (e _ (ă a)) (U9 (e _ (ă a))),Cq.wp.no (λh=>h rfl) ⟨_,i _ (ă a),?_,?_⟩⟩
  .simp only[Ā,ć,Č,ė,small];omega
  show _=_
  rw[χ ŉ,mul_zero,č a,Ī]
  rfl
 subst d
 refine Cq.wp.no ŉ ?_
 show _=_
 rw[ě (ĉ _)]
theorem RU{c:Zf}{f:Zf->Zf}{p:Ŀ Za}(j:p.length<=100)(e:∀t∈p,Ok t.m){s:Int}(d:(oy c).Γ s)(g:s≠0)(i:∀t∈p,(rj c t.c).Γ (f t.c)):
  (FH c (λ_=>0) p).Γ (p.map λt=>⟨f t.c,t.m⟩,0):=by
 refine⟨s,d,Cq.wp.no g ?_⟩
 refine Cq.Zo p.length (λk s=>s=((p.take k).map λt=>⟨f t.c,t.m⟩,(k:Int))) (λk s a d=>?_) (λs d=>?_) rfl
 .subst d
  refine Cq.wp.yes ŉ ⟨p[k],Ξ a,_,QO Ot (e _ (ă a)) (U9 (e _ (ă a))),Cq.wp.no (λh=>h rfl) ⟨p[k],Ξ a,_,i _ (ă a),?_,?_⟩⟩
  .simp only[Ā,ć,Č,ė,small];omega
  show _=_
  rw[χ ŉ,mul_zero,č a,Ī]
  rfl
 subst d
 refine Cq.wp.no ŉ ?_
 show _=_
 rw[ě (ĉ _)]
theorem Β.mono{p:Ŀ Za}(h:Β p):∀t∈p,Ok t.m:=λt a=>(h.tm t a).m
theorem TA{p:Ŀ Za}(a:0<p.length):(p[0]'a)∈p:=ă a
theorem Ss{p:Ŀ Za}(a:0<p.length):jD p=if Î (p[0]'a).c<0 then -1 else 1:=by
 match p,a with
 |t::p,_=>rfl
theorem Kn{p:Ŀ Za}(h:Β p)(f:p≠[]):(AD p).Γ (à p):=by
 have u:=h.len;have m:0<p.length:=Š.2 f;obtain⟨A,B⟩:=xx h f;refine Cq.wp.no ŉ ⟨ä 0,Cq.Γ.mf 20 (by decide +kernel),ä 1,Cq.Γ.mf 20 (by decide +kernel),?_⟩;show(PY p (0,ä 0,ä 1)).wp _;refine Cq.Zo p.length (λk s=>s=((k:Int),ä (ô (p.take k):Int),ä 1)) (λk s l c=>?_) (λs c=>?_) rfl
 .subst c;obtain⟨e,g,i,j⟩:=h.num (ă l);obtain⟨y,r⟩:=h.parts (ă l);have C:=Tw h k;have hr:=Zq (Zq Zya (x:=(ô (p.take k):Int)) ŉ ŉ) i j;refine Cq.wp.yes ŉ ⟨p[k],Ξ l,ä (Nat.gcd (ô (p.take k):Int).natAbs (Î p[k].c).natAbs:Nat),(by rw[y];exact Zr hr),ä 1,(by rw[r];exact F5.1),(ä 1,ä 0,0),(by rw[r];exact F5.2.1),ä 1,F5.2.2.1,?_⟩;show _=_;rw[χ ŉ,Tx p k l];simp only[aa6]
 subst c;refine Cq.wp.no ŉ ?_;rw[ě (ĉ _)];show(JH p (ä (ô p:Int)) (ä 1)).Γ _;unfold JH;obtain⟨e,g,i,j⟩:=h.num (TA m);have c:=Zq Sr i j;rw[show(Î p[0].c == 0)=false by simpa using g,Ľ]at c;have n:=Zq Zyb (x:=(ô p:Int)) ŉ ŉ;have q:=Zq Ue (x:=(ô p:Int)) ŉ ŉ;simp only[Ĉ]at n q;have v:∀t∈p,(Z9 ⟨ä 1,ä (ô p:Int)⟩ t.c).Γ (fJ 1 (ô p) t.c)/\(Z9 ⟨ä (-1),ä (ô p:Int)⟩ t.c).Γ (fJ (-1) (ô p) t.c):=λt d=>by obtain⟨e,g,i,j⟩:=h.num d;have:=Zq (Zq ZwP (x:=(ô p:Int)) ŉ ŉ) i j;rw[show(Î t.c == 0)=false by simpa using g,show(Î t.c % (ô p:Int) != 0)=false by simpa using xJ d,Ľ,Ľ,Ĉ]at this;unfold fJ;rw[e,pB];exact⟨Zr this.1,Zr this.2⟩
 refine⟨p[0],⟨ŉ,by simp[m]⟩,_,(by rw[e];exact Zr c),?_⟩;unfold à;rw[Ss m];by_cases a:Î p[0].c<0
 .rw[ą a,ą a];refine Cq.wp.yes ĳ ⟨_,F5.2.2.2,?_⟩;exact⟨_,Zr n.2,_,R6 u h.mono (Zr q.1.1.2) ĳ (λt d=>(v t d).2),rfl⟩
 rw[ā a,ā a,ā g];refine Cq.wp.no ĳ ?_;exact⟨_,Zr n.1,_,R6 u h.mono (Zr q.1.1.1) ĳ (λt d=>(v t d).1),rfl⟩
theorem PV{p:Ŀ Za}(h:Β p):(Fa p).Γ (à p):=by
 have v:=h.len;by_cases f:p=[]
 .subst f;exact Cq.wp.yes rfl rfl
 have n:0<p.length:=Š.2 f;obtain⟨A,B⟩:=xx h f;refine Cq.wp.no ŉ ⟨ä 1,Cq.Γ.mf 20 (by decide +kernel),ä 0,Cq.Γ.mf 20 (by decide +kernel),?_⟩;refine Cq.Zo p.length (λk s=>s=((k:Int),ä 1)) (λk s c d=>?_) (λs d=>?_) rfl
 .subst d;obtain⟨e,l,i,j⟩:=h.num (ă c);obtain⟨u,m⟩:=h.parts (ă c);refine Cq.wp.yes ŉ ⟨p[k],Ξ c,p[k],Ξ c,ä 1,(by rw[m];exact F9.1),(ä 1,ä 0,0),(by rw[m];exact F9.2.1),ä 1,F9.2.2.1,?_⟩;show _=_;rw[χ ŉ]
 subst d;refine Cq.wp.no ŉ ?_;show(Qh p (ä 0) (ä 1)).Γ _;refine Cq.Zo p.length (λk s=>s=((k:Int),ä (ô (p.take k):Int))) (λk s c d=>?_) (λs d=>?_) rfl
 .subst d;obtain⟨e,l,i,j⟩:=h.num (ă c);have C:=Tw h k;have hr:=Zq (Zq ZyB (x:=(ô (p.take k):Int)) ŉ ŉ) i j;obtain⟨u,m⟩:=h.parts (ă c);refine Cq.wp.yes ŉ ⟨p[k],Ξ c,(ä 1,ä 0,0),(by rw[m];exact F9.2.2.2),p[k],Ξ c,ä (Î p[k].c),(by rw[u];exact Zr (Zq Zxh i j)),ä (Nat.gcd (ô (p.take k):Int).natAbs (Î p[k].c).natAbs:Nat),Zr hr,?_⟩;show _=_;rw[χ ŉ,Tx p k c];simp only[aa6]
 subst d;refine Cq.wp.no ŉ ?_;rw[ě (ĉ _)];show(Jv p (ä 1) (ä (ô p:Int))).Γ _;unfold Jv;obtain⟨e,l,i,j⟩:=h.num (TA n);have d:=Zq FY (x:=Î p[0].c) ŉ ŉ;have q:=Zq ZyC (x:=(ô p:Int)) ŉ ŉ;have r:=Zq Ue (x:=(ô p:Int)) ŉ ŉ;simp only[Ĉ]at q r;have y:∀t∈p,(rj ⟨ä 1,ä (ô p:Int)⟩ t.c).Γ (fJ 1 (ô p) t.c)/\(rj ⟨ä (-1),ä (ô p:Int)⟩ t.c).Γ (fJ (-1) (ô p) t.c):=λt g=>by obtain⟨e,l,i,j⟩:=h.num g;have:=Zq (Zq Zxi (x:=(ô p:Int)) ŉ ŉ) i j;rw[show(Î t.c == 0)=false by simpa using l,show(Î t.c % (ô p:Int) != 0)=false by simpa using xJ g,Ľ,Ľ,Ĉ]at this;unfold fJ;rw[e,pB];exact⟨Zr this.1,Zr this.2⟩
 refine⟨_,Zr q.1,p[0],⟨ŉ,by simp[n]⟩,_,(by rw[e];exact Zr d),?_⟩;unfold à;rw[Ss n];by_cases a:Î p[0].c<0
 .rw[ą a,ą a];refine Cq.wp.yes ĳ ⟨_,Zr q.2,?_⟩;exact⟨_,RU v h.mono (Zr r.2) ĳ (λt g=>(y t g).2),rfl⟩
 rw[ā a,ā a,ā l];refine Cq.wp.no ĳ ?_;exact⟨_,RU v h.mono (Zr r.1.2) ĳ (λt g=>(y t g).1),rfl⟩
end Go.EL

namespace Go.EL
open Go.IntKind (i8 i16 i32 i64 u8 u16 u32 u64)
open Go Go.RowKit
theorem LS(s:Int)(g:Nat)(c:Zf):Î (fJ s g c)=s*(Î c / (g:Int)):=pB _
theorem Mv{n:Int}{g:Nat}(d:1<=g)(c:n % (g:Int)=0)(a:n≠0):n / (g:Int)≠0:=λh=>by have:=ei n g;rw[h,c]at this;simp at this;exact a this.symm
theorem YQ{n:Int}{g:Nat}(c:1<=g)(a:-12<=n)(h2:n<=12):-12<=n / (g:Int)/\n / (g:Int)<=12:=by refine⟨(Int.le_ediv_iff_mul_le ŉ).2 ?_,dO (Int.ediv_le_ediv ŉ h2) (Int.ediv_le_self _ ĳ)⟩;have:(g:Int)*12 ≥ 12:=ŉ;omega
theorem LX(p:Ŀ Za):(à p).length=p.length:=ć _
theorem Bm{p:Ŀ Za}:à p=[]↔p=[]:=by unfold à;simp
theorem Zyr{p:Ŀ Za}{t:Za}(h:t∈à p):∃x∈p,t=⟨fJ (jD p) (ô p) x.c,x.m⟩:=by obtain⟨x,a,h2⟩:=Ğ.1 h;exact⟨x,a,h2.symm⟩
theorem vF{p:Ŀ Za}(h:Β p):Β (à p) where
 ord:=by unfold à;rw[Ź];exact h.ord
 tm:=λt f=>by
  obtain⟨x,a,rfl⟩:=Zyr f;have c:p≠[]:=λe=>by rw[e]at a;cases a
  obtain⟨d,l⟩:=xx h c;obtain⟨e,i,j,k⟩:=h.num a;have m:=Mv d (xJ a) i;obtain⟨n,q⟩:=YQ (g:=ô p) d j k;refine⟨⟨_,rfl,?_,?_,?_⟩,h.mono x a⟩;all_goals rcases Mm p with s|s<;>rw[s]<;>omega
 len:=by rw[LX];exact h.len
theorem Se(p:Ŀ Za):∀k,fH (à p) k=fH p k
 |0=>rfl
 |k+1=>by unfold fH;rw[Se p k];unfold à;rw[aaz];cases p[k]?<;>rfl
theorem xF(p:Ŀ Za):gk (à p)=gk p:=by unfold gk;rw[LX,Se]
theorem Q4(p:Ŀ Za):∀k,hZ (à p) k=hZ p k
 |0=>rfl
 |k+1=>by unfold hZ;rw[Q4 p k];unfold à;rw[aaz];cases p[k]?<;>rfl
theorem Zxa(p:Ŀ Za):ð (à p)=ð p:=by unfold ð;rw[LX,Q4]
theorem T6(p:Ŀ Za)(n:Int):Ð (à p) n=Ð p n:=by unfold Ð;rw[Zxa,xF]
theorem K6{s:Int}(c:s=1\/s = -1){g:Nat}(e:1<=g):∀{p:Ŀ Za},(∀t∈p,Î t.c % (g:Int)=0)->ô (p.map λt=>⟨fJ s g t.c,t.m⟩)*g=ô p
 |[],_=>dz _
 |t::p,h=>by
  have j:=K6 c e (p:=p) (λx i=>h x (by simp[i]));have f:=h t ß;simp only[ġ,ô];rw[<-j,<-Nat.gcd_mul_right,LS];congr 1;have d:(s*(Î t.c / (g:Int))).natAbs=(Î t.c / (g:Int)).natAbs:=by rcases c with rfl|rfl<;>simp
  rw[d];have a:=ei (Î t.c) g;rw[f,aaA]at a;rw[<-a,Int.natAbs_mul,a,aa6,abw]
theorem Zyq{p:Ŀ Za}(h:Β p)(a:p≠[]):ô (à p)=1:=by obtain⟨c,e⟩:=xx h a;have:=K6 (Mm p) c (p:=p) (λt d=>xJ d);exact Nat.eq_of_mul_eq_mul_right c (by rw[Nat.one_mul];exact this)
theorem Zys{p:Ŀ Za}(h:Β p):jD (à p)=1:=by
 match p,h with
 |[],_=>rfl
 |t::q,h=>
  obtain⟨e,j,l,m⟩:=h.num (t:=t) ß;obtain⟨i,k⟩:=xx h ß;have c:=xJ (p:=t::q) (t:=t) ß;show(if Î (fJ _ _ t.c)<0 then(-1:Int)else 1)=1;rw[LS,ā];have n:=Mv i c j;have f:=ei (Î t.c) (ô (t::q));rw[c,aaA]at f;unfold jD;dsimp only;generalize ô (t::q)=g at *;generalize Î t.c / (g:Int)=z at *;by_cases d:Î t.c<0
  .rw[ą d];have:¬0<z:=λa=>by
    have:=Int.mul_pos (show(0:Int)<(g:Int) by omega) a;omega
   omega
  rw[ā d];have:¬z<0:=λa=>by have:=abb (show(0:Int)<(g:Int) by omega) a;omega
  omega
theorem Zz3{p:Ŀ Za}(h:Β p){t:Za}(a:t∈p):fJ 1 1 t.c=t.c:=by obtain⟨e,_⟩:=h.num a;unfold fJ;rw[aat,Int.natCast_one,Int.ediv_one];exact e.symm
theorem S1{p:Ŀ Za}(h:Β p):à (à p)=à p:=by
 by_cases a:p=[]
 .subst a;rfl
 have c:=vF h;show(à p).map (λt=>(⟨fJ (jD (à p)) (ô (à p)) t.c,t.m⟩:Za))=à p;rw[Zyq h a,Zys h];refine(Ů λt d=>?_).trans (List.map_id _);rw[Zz3 c d];rfl
def hQ(l:Ŀ (Ŀ Za)):Prop:=l.Pairwise λa b=>í a b<0
theorem Q8:∀{l m:Ŀ (Ŀ Za)},hQ l->hQ m->(∀x,x∈l↔x∈m)->l=m
 |[],[],_,_,_=>rfl
 |[],y::m,_,_,h=>by have:=(h y).2 ß;cases this
 |x::l,[],_,_,h=>by have:=(h x).1 ß;cases this
 |x::l,y::m,i,h2,h=>by
  obtain⟨a1,a2⟩:=Į.1 i;obtain⟨d,g⟩:=Į.1 h2;have e:x=y:=by
   rcases Ď.1 ((h x).1 ß)with e|n
   .exact e
   rcases Ď.1 ((h y).2 ß)with e|p
   .exact e.symm
   have q:=d x n;have r:=a1 y p;have:=qF x y;omega
  subst e;have f:∀{z:Ŀ Za}{k:Ŀ (Ŀ Za)},(∀a∈k,í z a<0)->z ∉ k:=λj c=>by have:=j _ c;rw[xw]at this;omega
  rw[Q8 a2 g λz=>⟨λc=>?_,λc=>?_⟩]
  .rcases Ď.1 ((h z).1 (by simp[c]))with e|tS
   .subst e;exact absurd c (f a1)
   exact tS
  rcases Ď.1 ((h z).2 (by simp[c]))with e|tS
  .subst e;exact absurd c (f d)
  exact tS
theorem TV:∀{l:Ŀ (Ŀ Za)}{x:Ŀ Za},(x::l).Pairwise (λa b=>í a b<=0)->(∀p∈x::l,Ñ p=true)->hQ (x::jQ x l)/\∀z,z∈x::jQ x l↔z∈x::l
 |[],x,_,_=>⟨ū _ _,λ_=>Iff.rfl⟩
 |y::l,x,h,d=>by
  obtain⟨a1,a2⟩:=Į.1 h;obtain⟨f,g⟩:=TV a2 (λp hp=>d p (by simp at hp⊢;exact .inr hp));unfold jQ;by_cases e:í y x=0
  .rw[ą e];have:y=x:=A6 (d y ß) (d x ß) e;subst this;refine⟨f,λz=>?_⟩;rw[g z];simp
  rw[ā e];have c:í x y<0:=by have:=a1 y ß;have:=qF x y;omega
  refine⟨Į.2 ⟨λz i=>?_,f⟩,λz=>?_⟩
  .rcases Ď.1 i with rfl|tS
   .exact c
   exact(yN x y z ŉ (by have:=(Į.1 f).1 z tS;omega)).2 (.inl c)
  have:=g z;simp only[Ď]at this⊢;rw[this]
def er(l:Ŀ (Ŀ Za)):Ŀ (Ŀ Za):=gj (jz l)
theorem FZ{l:Ŀ (Ŀ Za)}(d:∀p∈l,Ñ p=true):hQ (er l)/\∀z,z∈er l↔z∈l:=by
 have a:∀z,z∈jz l↔z∈l:=λz=>(vq l).mem_iff;have c:=Kw l;unfold er;generalize jz l=m at *;match m,a,c with
 |[],a,_=>exact⟨List.Pairwise.nil,a⟩
 |x::m,a,c=>
  obtain⟨e,f⟩:=TV c (λp hp=>d p ((a p).1 hp));exact⟨e,λz=>(f z).trans (a z)⟩
theorem VU{l m:Ŀ (Ŀ Za)}(a:∀p∈l,Ñ p=true)(c:hQ m)(h:∀z,z∈m↔z∈l):m=er l:=by obtain⟨d,e⟩:=FZ a;exact Q8 c d λz=>(h z).trans (e z).symm
theorem Gq(l:Ŀ (Ŀ Za)):(er l).length<=l.length:=ň TU (aaS (vq l).length_eq)
end Go.EL

namespace Go.EL
open Go.IntKind (i8 i16 i32 i64 u8 u16 u32 u64)
open Go Go.RowKit
theorem Zxf:(ã (-12) 12 λa=>a == 0 || ã (-12) 12 λb=>b == 0 || runs 40 (vD (ý a) (ý b)) (if a<b then -1 else if a=b then 0 else 1))=true:=by decide +kernel
theorem ZvF:(ã (-12) 12 λa=>a == 0 || ã (-12) 12 λb=>b == 0 || runs 40 (Bh (ý a) (ý b)) (decide (a=b)))=true:=by decide +kernel
theorem S6{a b:Zf}(c:fo a=true)(d:fo b=true):(vD a b).Γ (hK a b):=by obtain⟨m,rfl,e,f,g⟩:=ue c;obtain⟨n,rfl,i,j,k⟩:=ue d;have h:=Zq Zxf f g;rw[show(m == 0)=false by simpa using e,Ľ]at h;have h':=Zq h j k;rw[show(n == 0)=false by simpa using i,Ľ]at h';unfold hK;rw[pB,pB];exact Zr h'
theorem Zu1{a b:Zf}(c:fo a=true)(d:fo b=true):(Bh a b).Γ (decide (hK a b=0)):=by
 obtain⟨m,rfl,f,g,i⟩:=ue c;obtain⟨n,rfl,j,k,l⟩:=ue d;have h:=Zq ZvF g i;rw[show(m == 0)=false by simpa using f,Ľ]at h;have h':=Zq h k l;rw[show(n == 0)=false by simpa using j,Ľ]at h';have e:decide (hK (ý m) (ý n)=0)=decide (m=n):=by
  unfold hK;rw[pB,pB];by_cases e:m=n
  .subst e;simp
  rw[ċ e,ċ];split
  .decide
  decide
 rw[e];exact Zr h'
theorem S8{p q:Ŀ Za}(hp:Ñ p=true)(l:Ñ q=true):(Gf p q).Γ (í p q):=by
 have t:=vp hp;have u:=vp l;refine(RN p q 0).mono (p:=λo=>match o with|.inl v=>v=í p q|.inr ()=>∃k,(k=p.length\/k=q.length)/\k<=p.length/\k<=q.length/\í p q=í (p.drop k) (q.drop k)) (λo h=>?_) (Cq.Zo p.length (λk s=>s=(k:Int)/\k<=p.length/\k<=q.length/\í p q=í (p.drop k) (q.drop k)) ?_ ?_ ⟨rfl,Ĝ _,Ĝ _,rfl⟩)
 .match o,h with
  |.inl v,h=>exact h
  |.inr (),⟨k,r,i,h2,h3⟩=>
   show(Kr p q).Γ _;unfold Kr;rw[h3];by_cases m:p.length<q.length
   .refine Cq.wp.yes ŉ ?_;have:k=p.length:=ŉ;subst this;show(-1:Int)=_;rw[Ķ (ĉ _),ĭ m];rfl
   refine Cq.wp.no ŉ ?_;have:k=q.length:=ŉ;subst this;by_cases n:q.length<p.length
   .refine Cq.wp.yes ŉ ?_;show(1:Int)=_;rw[Ķ (ĉ q.length),ĭ n];rfl
   refine Cq.wp.no ŉ ?_;show(0:Int)=_;rw[Ķ (ĉ q.length),Ķ ŉ];rfl
 .rintro k s d ⟨rfl,i,h2,h3⟩;refine Cq.wp.yes ŉ ?_;by_cases a:k<q.length
  .refine Cq.wp.yes ŉ ?_;have c:=Ft p q d a;show(RO p q (k:Int)).wp _;refine⟨_,Ξ d,_,Ξ a,_,Az _ _,?_⟩;by_cases g:p[k].m=q[k].m
   .refine Cq.wp.no (by rw[g,A5];simp) ⟨_,Ξ d,_,Ξ a,_,S6 (tF hp d) (tF l a),?_⟩;have j:fB p[k] q[k]=hK p[k].c q[k].c:=ą g;rw[j]at c;by_cases e:hK p[k].c q[k].c=0
    .rw[ą e]at c;refine Cq.wp.no ŉ ?_;exact⟨χ ŉ,ŉ,ŉ,h3.trans c⟩
    rw[ā e]at c;refine Cq.wp.yes e ⟨_,Ξ d,_,Ξ a,_,S6 (tF hp d) (tF l a),?_⟩;exact(h3.trans c).symm
   have f:¬Ý p[k].m q[k].m=0:=λe=>g (uk e);have j:fB p[k] q[k]=Ý p[k].m q[k].m:=ā g;rw[j,ā f]at c;refine Cq.wp.yes f ⟨_,Ξ d,_,Ξ a,_,Az _ _,?_⟩;exact(h3.trans c).symm
  refine Cq.wp.no ŉ ?_;exact⟨k,.inr ŉ,i,h2,h3⟩
 rintro s ⟨rfl,i,h2,h3⟩;refine Cq.wp.no ŉ ?_;exact⟨p.length,.inl rfl,i,h2,h3⟩
theorem Zu0{s t:Za}(a:fo s.c=true)(c:fo t.c=true):(EA s t).Γ (decide (fB s t=0)):=by
 unfold EA fB;by_cases h:s.m=t.m
 .refine Cq.wp.yes h ?_;simp only[ą h];exact⟨_,Zu1 a c,rfl⟩
 refine Cq.wp.no h ?_;simp only[ā h];show false=_;have:¬Ý s.m t.m=0:=λe=>h (uk e);simp[this]
theorem Ki{p q:Ŀ Za}(hp:Ñ p=true)(f:Ñ q=true):(tE p q).Γ (decide (í p q=0)):=by
 have j:=vp hp;have l:=vp f;by_cases i:p.length=q.length
 .refine Cq.wp.no ŉ ?_;refine(Ri p q 0).mono (p:=λo=>match o with|.inl v=>v=decide (í p q=0)|.inr ()=>í p q=0) (λo h=>?_) (Cq.Zo p.length (λk s=>s=(k:Int)/\k<=p.length/\í p q=í (p.drop k) (q.drop k)) ?_ ?_ ⟨rfl,Ĝ _,rfl⟩)
  .match o,h with
   |.inl v,h=>exact h
   |.inr (),h=>show true=_;rw[Ă h]
  .rintro k s d ⟨rfl,g,h3⟩;have a:k<q.length:=ŉ;refine Cq.wp.yes ŉ ⟨_,Ξ d,_,Ξ a,_,Zu0 (tF hp d) (tF f a),?_⟩;have c:=Ft p q d a;by_cases e:fB p[k] q[k]=0
   .rw[ą e]at c;rw[Ă e];refine Cq.wp.no ĳ ?_;exact⟨χ ŉ,ŉ,h3.trans c⟩
   rw[ā e]at c;rw[ċ e];refine Cq.wp.yes ĳ ?_;show false=_;rw[h3,c,ċ e]
  rintro s ⟨rfl,g,h3⟩;refine Cq.wp.no ŉ ?_;show í p q=0;rw[h3,Ķ (ĉ _),Ķ ŉ];rfl
 refine Cq.wp.yes ŉ ?_;show false=_;rw[ċ (λh=>i (LK h))]
def gZ(plain:Bool)(q:Ŀ Za):Bool:=!q.isEmpty&&!(plain&&decide (gk q=0))
theorem Zyo{v:Ŀ (Ŀ Za)}{y:Ŀ Za}(g:∀p∈v,Ñ p=true)(j:Ñ y=true)(l:v.length<=1000):
  (Jy v y 0).wp (λo=>∃k:Nat,o=(k:Int)/\k<=v.length/\(∀i (h:i<v.length),i<k->í v[i] y<0)/\(∀h:k<v.length,¬í v[k] y<0)):=by
 refine Cq.Zo v.length (λk s=>s=(k:Int)/\k<=v.length/\∀i (h:i<v.length),i<k->í v[i] y<0) ?_ ?_ ⟨rfl,Ĝ _,λi _ h=>absurd h (ı _)⟩
 .rintro k s d ⟨rfl,c,h2⟩
  refine Cq.wp.yes ŉ ⟨_,Ξ d,_,S8 (g _ (ă d)) j,?_⟩
  by_cases a:í v[k] y<0
  .refine Cq.wp.yes a ⟨χ ŉ,ŉ,λi hi f=>?_⟩
   by_cases e:i=k
   .subst e;exact a
   exact h2 i hi ŉ
  exact Cq.wp.no a ⟨k,rfl,c,h2,λ_=>a⟩
 rintro s ⟨rfl,c,h2⟩
 exact Cq.wp.no ŉ ⟨v.length,rfl,c,h2,λh=>absurd h (Nat.lt_irrefl _)⟩
theorem ZvN{v:Ŀ (Ŀ Za)}{y:Ŀ Za}(l:hQ v){k:Nat}(t:k<=v.length)(m:∀i (h:i<v.length),i<k->í v[i] y<0)(h2:∀h:k<v.length,0<í v[k] y):
  hQ (v.take k++([y]++v.drop k))/\∀z,z∈v.take k++([y]++v.drop k)↔z∈v\/z=y:=by
 have n:∀z∈v.drop k,0<í z y:=λz f=>by
  obtain⟨j,d,rfl⟩:=Ŕ f;rw[ľ]at d;have il:k<v.length:=ŉ;rw[List.getElem_drop];have q:=h2 il;by_cases e:j=0
  .subst e;exact q
  have:=Ģ.1 l k (k+j) il ŉ ŉ;have u:=qF v[k] y;have x:=qF v[k+j] y;have:=(yN y v[k] v[k+j] ŉ ŉ).2 (.inl ŉ);omega
 refine⟨?_,λz=>?_⟩
 .unfold hQ
  rw[ew]
  have oq:((v.take k)++v.drop k).Pairwise λa b=>í a b<0:=by rw[Ń];exact l
  obtain⟨p,r,s⟩:=ew.1 oq
  refine⟨p,?_,λa g b c=>?_⟩
  .refine Į.2 ⟨λz f=>?_,r⟩
   have:=n z f
   have:=qF z y
   omega
  rcases Ď.1 c with rfl|c
  .obtain⟨j,d,rfl⟩:=Ŕ g
   rw[Č]at d
   rw[aad]
   exact m j ŉ ŉ
  exact s a g b c
 have:z∈v↔z∈v.take k\/z∈v.drop k:=by rw[<-Ĩ,Ń]
 rw[this]
 simp only[Ĩ,Ď,ĝ,Ť,List.singleton_append]
 constructor
 .rintro (h|h|h)
  .exact .inl (.inl h)
  .exact .inr h
  exact .inl (.inr h)
 rintro ((h|h)|h)
 .exact .inl h
 .exact .inr (.inr h)
 exact .inr (.inl h)
def kept(l:Ŀ (Ŀ Za))(plain:Bool):Ŀ (Ŀ Za):=(l.map à).filter (gZ plain)
theorem Fy{l:Ŀ (Ŀ Za)}(h:∀p∈l,Β p){plain:Bool}:∀q∈kept l plain,Β q:=λq a=>by obtain⟨p,hp,rfl⟩:=Ğ.1 (Ō.1 a).1;exact vF (h p hp)
theorem Bb(l:Ŀ (Ŀ Za))(plain:Bool){k:Nat}(a:k<l.length):kept (l.take (k+1)) plain=kept (l.take k) plain++(if gZ plain (à l[k])=true then[à l[k]]else[]):=by unfold kept;rw[č a,Ī,aa7];congr 1;simp only[ġ,ő,Ŏ,List.filter_nil]
structure kG (l:Ŀ (Ŀ Za)) (plain:Bool) (k:Nat) (v:Ŀ (Ŀ Za)):Prop where
 st:hQ v
 mem:∀z,z∈v↔z∈kept (l.take k) plain
 len:v.length<=k
theorem kG.skip{l:Ŀ (Ŀ Za)}{plain:Bool}{k:Nat}{v:Ŀ (Ŀ Za)}(h:kG l plain k v)(a:k<l.length)(c:gZ plain (à l[k])=false):kG l plain (k+1) v:=
 ⟨h.st,λz=>by rw[h.mem z,Bb l plain a,c];simp,aav h.len⟩
theorem kG.same{l:Ŀ (Ŀ Za)}{plain:Bool}{k:Nat}{v:Ŀ (Ŀ Za)}(h:kG l plain k v)(c:k<l.length)(d:à l[k]∈v):kG l plain (k+1) v:=
 ⟨h.st,(λz=>by
  rw[h.mem z,Bb l plain c,Ĩ];refine⟨.inl,λa=>?_⟩;rcases a with a|a
  .exact a
  split at a
  .rw[Ē]at a;subst a;exact(h.mem _).1 d
  cases a),aav h.len⟩
theorem kG.put{l:Ŀ (Ŀ Za)}{plain:Bool}{k:Nat}{v:Ŀ (Ŀ Za)}(h:kG l plain k v)(d:k<l.length)(e:gZ plain (à l[k])=true){j:Nat}(c:j<=v.length)(a:∀i (h:i<v.length),i<j->í v[i] (à l[k])<0)(h2:∀h:j<v.length,0<í v[j] (à l[k])):
  kG l plain (k+1) (v.take j++([à l[k]]++v.drop j)):=by
 obtain⟨f,g⟩:=ZvN h.st c a h2
 refine⟨f,λz=>?_,?_⟩
 .rw[g z,h.mem z,Bb l plain d,e,ą rfl,Ĩ,Ē]
 have:=h.len
 simp only[Ā,Č,ľ,ė]
 omega
theorem Sc{l:Ŀ (Ŀ Za)}{plain:Bool}{k:Nat}{v:Ŀ (Ŀ Za)}(h:kG l plain k v)(C:l.length<=100)(g:k<l.length)(A:gZ plain (à l[k])=true)(hp:∀p∈l,Β p){j:Nat}(y:j<=v.length)(x:∀i (h:i<v.length),i<j->í v[i] (à l[k])<0)(h2:∀h:j<v.length,¬í v[j] (à l[k])<0)(q:∀p∈v,Ñ p=true):
  (if(j:Int)<(v.length:Int)then(Cq.Λ v (j:Int) λB=>Cq.bind (tE B (à l[k])) λm=>if m=true then(Cq.ret (.inl (v,i64.wrap ((k:Int)+1))))else(tY v (k:Int) (à l[k]) (j:Int)))else(tY v (k:Int) (à l[k]) (j:Int))).wp (Out (λs=>∃f,s=(f,((k+1:Nat):Int))/\kG l plain (k+1) f) λr=>r=er (kept l plain)):=by
 have n:=h.len
 have c:Ñ (à l[k])=true:=(vF (hp _ (ă g))).gu
 have d:(∀h:j<v.length,0<í v[j] (à l[k]))->(tY v (k:Int) (à l[k]) (j:Int)).wp (Out (λs=>∃f,s=(f,((k+1:Nat):Int))/\kG l plain (k+1) f) λr=>r=er (kept l plain)):=λh2=>by
  unfold tY;have t:(v.take (v.length:Int).toNat).drop (j:Int).toNat=v.drop j:=by rw[Ĕ,Ĕ,ě (ĉ _)]
  have u:((v.take (j:Int).toNat).drop (0:Int).toNat)=v.take j:=by rw[Ĕ];rfl
  rw[t,u];refine⟨⟨ŉ,ŉ,ŉ⟩,?_,⟨ŉ,ŉ,ŉ⟩,?_,_,?_,h.put g A y x h2⟩
  .simp only[Ā,ľ,ė,small];omega
  .simp only[Ā,Č,ľ,ė,small];omega
  rw[χ ŉ]
 by_cases a:j<v.length
 .refine Cq.wp.yes ŉ ⟨_,Ξ a,_,Ki (q _ (ă a)) c,?_⟩
  by_cases e:í v[j] (à l[k])=0
  .refine Cq.wp.yes (Ă e) ⟨_,by rw[χ ŉ],h.same g (by rw[<-A6 (q _ (ă a)) c e];exact ă a)⟩
  refine Cq.wp.no (by simpa using e) (d λ_=>?_)
  have:=h2 a
  omega
 exact Cq.wp.no ŉ (d λh=>absurd h a)
theorem PW{l:Ŀ (Ŀ Za)}(t:l.length<=100)(h:∀p∈l,Β p)(plain:Bool):(Fe l plain).Γ (er (kept l plain)):=by
 refine Cq.Zo l.length (λk s=>∃v,s=(v,(k:Int))/\kG l plain k v) ?_ ?_ ⟨[],rfl,List.Pairwise.nil,λz=>by simp[kept],Ĝ _⟩
 .rintro k s c ⟨v,rfl,hi⟩;have u:=hi.len;have y:=vF (h _ (ă c));have a:=y.gu;have m:∀p∈v,Ñ p=true:=λp hp=>(Fy (λq B=>h q (Ŝ B)) p ((hi.mem p).1 hp)).gu;refine Cq.wp.yes ŉ ⟨_,Ξ c,_,PV (h _ (ă c)),?_⟩;refine(Jy v (à l[k]) 0).mono (λo ⟨j,i,r,n,h2⟩=>?_) (Zyo m a ŉ);subst i;show(Jz plain v (k:Int) (à l[k]) (j:Int)).wp _;unfold Jz;by_cases g:à l[k]=[]
  .refine Cq.wp.yes (by rw[g];rfl) ⟨v,by rw[χ ŉ],hi.skip c (by rw[g];rfl)⟩
  have d:(à l[k]).isEmpty=false:=by simpa using g
  have A:(à l[k]).length≠0:=λe=>g (abq.1 e);refine Cq.wp.no ŉ ?_;cases plain with
  |true=>
   refine Cq.wp.yes rfl ⟨_,w9 y,?_⟩;by_cases f:gk (à l[k])=0
   .refine Cq.wp.yes f ⟨v,by rw[χ ŉ],hi.skip c (by unfold gZ;rw[decide_eq_true f];simp)⟩
   refine Cq.wp.no f ?_;exact Sc hi t c (by unfold gZ;rw[d,decide_eq_false f];rfl) h r n h2 m
  |false=>
   refine Cq.wp.no ĳ ?_;exact Sc hi t c (by unfold gZ;rw[d];rfl) h r n h2 m
 rintro s ⟨v,rfl,hi⟩;refine Cq.wp.no ŉ ?_;have x:=hi.mem;rw[ě (ĉ _)]at x;exact VU (λp hp=>(Fy h p hp).gu) hi.st x
end Go.EL

namespace Go.EL
open Go.IntKind (i8 i16 i32 i64 u8 u16 u32 u64)
open Go Go.RowKit
def ku(b:Int):Bool:=decide (65<=b/\b<=90) || decide (97<=b/\b<=122)
def qn(b:Int):Bool:=decide (48<=b/\b<=57) || decide (b=95)
def jb(i:Nat)(b:Int):Bool:=ku b || (decide (0<i)&&qn b)
def jf(s:Ĳ):Bool:=decide (1<=s.size/\s.size<=12)&&(List.range s.size).all λi=>jb i (eP s (i:Int))
theorem Va{s:Ĳ}{i:Nat}(hi:i<s.size)(h:jb i (eP s (i:Int))=false):jf s=false:=by unfold jf;rw[aaC];right;rw[List.all_eq_false];exact⟨i,ĺ.2 hi,by rw[h];decide⟩
theorem Zye{s:Ĳ}(a:1<=s.size/\s.size<=12)(h:∀i,i<s.size->jb i (eP s (i:Int))=true):jf s=true:=by unfold jf;rw[Ă a,ť,Ć];exact λi hi=>h i (ĺ.1 hi)
theorem RK(b:Int):(AO b).Γ (ku b):=by
 unfold AO ku;by_cases a:65<=b<;>by_cases h2:b<=90<;>by_cases h3:97<=b<;>simp[a,h2,h3]<;>first|rfl|omega
theorem ZxK(s:Ĳ):(FN s).Γ (jf s):=by
 unfold FN;by_cases n:(s.size:Int)<1
 .rw[ą n];show false=jf s;unfold jf;rw[ċ ŉ,Ŷ]
 rw[ā n];by_cases h2:12<(s.size:Int)
 .rw[ą h2];show false=jf s;unfold jf;rw[ċ ŉ,Ŷ]
 rw[ā h2];refine⟨ŉ,_,RK _,?_⟩;rw[Cq.Zm];cases h3:ku (eP s 0)with
 |false=>
  rw[ą ĳ];exact(Va (i:=0) ŉ (by unfold jb;rw[show((0:Nat):Int)=0 from rfl,h3];simp)).symm
 |true=>
  rw[ā ĳ];show(Cq.next _ _).wp _;refine Cq.Zo (s.size-1) (λk st=>st=((k+1:Nat):Int)/\∀i,i<k+1->jb i (eP s (i:Int))=true) (λk st r m=>?_) (λst m=>?_) ⟨rfl,λi hi=>?_⟩
  .obtain⟨rfl,hi⟩:=m;have f:∀{b:Int},b=eP s ((k+1:Nat):Int)->jb (k+1) b=true->∀i,i<k+1+1->jb i (eP s (i:Int))=true:=by
    intro b p q i l;by_cases e:i=k+1
    .subst e;rw[<-p];exact q
    exact hi i ŉ
   rw[Cq.Zm,ą ŉ];refine⟨ŉ,_,RK _,?_⟩;cases j:ku (eP s ((k+1:Nat):Int))with
   |true=>exact⟨χ ŉ,f rfl (by unfold jb;rw[j];rfl)⟩
   |false=>
    have g:qn (eP s ((k+1:Nat):Int))=false->false=jf s:=λh=>(Va (i:=k+1) ŉ (by unfold jb;rw[j,h];simp)).symm;have d:qn (eP s ((k+1:Nat):Int))=true->∀i,i<k+1+1->jb i (eP s (i:Int))=true:=λh=>f rfl (by unfold jb;rw[j,h];simp);refine⟨ŉ,?_⟩;rw[Cq.Zm];unfold qn at g d;split
    .refine⟨ŉ,?_⟩;rw[Cq.Zm];split
     .rename_i a b;exact⟨χ ŉ,d (by rw[Ă ⟨a,b⟩];rfl)⟩
     rename_i a b;refine⟨ŉ,?_⟩;rw[Cq.Zm];split
     .rename_i c;exact g (by rw[ċ (λh=>b h.2),ċ c];rfl)
     rename_i c;exact⟨χ ŉ,d (by rw[Ă (abg.1 c)];simp)⟩
    rename_i a;refine⟨ŉ,?_⟩;rw[Cq.Zm];split
    .rename_i c;exact g (by rw[ċ (λh=>a h.1),ċ c];rfl)
    rename_i c;exact⟨χ ŉ,d (by rw[Ă (abg.1 c)];simp)⟩
  .obtain⟨rfl,hi⟩:=m;rw[Cq.Zm,ā ŉ];exact(Zye ŉ λi l=>hi i ŉ).symm
  obtain rfl:i=0:=ŉ;unfold jb;rw[show((0:Nat):Int)=0 from rfl,h3];rfl
end Go.EL

namespace Go.EL
open Go.IntKind (i8 i16 i32 i64 u8 u16 u32 u64)
open Go Go.RowKit
structure hP (n:Nat) (next:Int) (l:Ŀ Zn):Prop where
 len:l.length<=12
 ids:∀q∈l,1<=q.id/\q.id<next
 inc:l.Pairwise λa b=>a.id<b.id
 hN:∀q∈l,Β q.p/\Ð q.p (n:Int)=true
structure Good (s:Zx):Prop where
 vars:s.vars.length<=4
 name:∀v∈s.vars,jf v=true
 diff:s.vars.Pairwise λa b=>a≠b
 next:1<=s.next/\s.next<=1000000
 eqs:hP s.vars.length s.next s.eqs
 δ:hP s.vars.length s.next s.δ
 apart:∀a∈s.eqs,∀b∈s.δ,a.id≠b.id
theorem KG{p:Ŀ Za}(h:Β p){n:Nat}(c:n<=4)(g:Ð p (n:Int)=true):(yR p (n:Int)).Γ true:=by
 obtain⟨f,h2⟩:=(pC (p:=p) (n:=n) ŉ).1 g;have e:u64.wrap (n:Int)=(n:Int):=by
  match n,c with
  |0,_=>rfl
  |1,_=>rfl
  |2,_=>rfl
  |3,_=>rfl
  |4,_=>rfl
 refine⟨true,Ao h,_,w9 h,?_⟩;rw[Cq.Zm,ą ((tC ŉ).2 h2)];refine⟨_,An h.len,by rw[e];omega,?_⟩;have i:=ui p;have d:=yP.2 f;rw[ů]at d;have a:(ð p).toNat<2 ^ n:=by
  rcases lv.1 d with h|h
  .have:=aab n;omega
  exact h
 show _=_;rw[e,wrap64 ŉ];refine Ă ?_;match n,c with
 |0,_=>exact Œ (show ð p<1 by simp at a;omega) ĳ
 |1,_=>exact Œ (show ð p<2 by simp at a;omega) ĳ
 |2,_=>exact Œ (show ð p<4 by simp at a;omega) ĳ
 |3,_=>exact Œ (show ð p<8 by simp at a;omega) ĳ
 |4,_=>exact Œ (show ð p<16 by simp at a;omega) ĳ
theorem TH{n:Nat}(e:n<=4){next:Int}{l:Ŀ Zn}(h:hP n next l):(Be l (n:Int) next).Γ true:=by
 have m:=h.len;unfold Be;rw[ā ŉ];show(Cq.next _ _).wp _;refine Cq.Zo l.length (λk s=>s=(k:Int)) (λk s a c=>?_) (λs c=>?_) rfl
 .subst c;have f:=h.ids _ (ă a);obtain⟨hp,d⟩:=h.hN _ (ă a);rw[Cq.Zm,ą ŉ];refine⟨l[k],Ξ a,?_⟩;rw[Cq.Zm,ā ŉ];refine⟨l[k],Ξ a,?_⟩;rw[Cq.Zm,ā ŉ,Cq.Zm];split
  .rename_i i;obtain⟨j,rfl⟩:∃j,k=j+1:=⟨k-1,ŉ⟩;have g:i64.wrap (((j+1:Nat):Int)-1)=(j:Int):=by rw[wrap64 ŉ];omega
   rw[g];have:=Ģ.1 h.inc j (j+1) ŉ a ŉ;refine⟨l[j],Ξ ŉ,l[j+1],Ξ a,?_⟩;rw[Cq.Zm,ā ŉ];refine⟨l[j+1],Ξ a,true,KG hp e d,?_⟩;rw[Cq.Zm,ā ĳ];exact χ ŉ
  refine⟨l[k],Ξ a,true,KG hp e d,?_⟩;rw[Cq.Zm,ā ĳ];exact χ ŉ
 subst c;rw[Cq.Zm,ā ŉ];rfl
theorem Zpu{s:Zx}(h:Good s):(Fo s).Γ true:=by
 have f:=h.vars;have l:=h.next;have i:=h.eqs.len;have g:=h.δ.len;unfold Fo;rw[ā ŉ,ā ŉ,ā ŉ];refine⟨true,TH f h.eqs,true,TH f h.δ,?_⟩;rw[Cq.Zm,ā ĳ];show(Cq.next _ _).wp _;refine Cq.Zo s.vars.length (λk st=>st=(k:Int)) (λk st c a=>?_) (λst a=>?_) rfl
 .subst a;rw[Cq.Zm,ą ŉ];show(Cq.next _ _).wp _;refine Cq.Zo k (λj st=>st=(j:Int)) (λj st d a=>?_) (λst a=>?_) rfl
  .subst a;have:=Ģ.1 h.diff j k ŉ c d;rw[Cq.Zm,ą ŉ];refine⟨s.vars[k],Ξ c,s.vars[j],Ξ ŉ,?_⟩;rw[Cq.Zm,ā (λe=>this e.symm)];exact χ ŉ
  subst a;rw[Cq.Zm,ā ŉ];show(Qu s (k:Int)).wp _;refine⟨s.vars[k],Ξ c,_,ZxK _,?_⟩;rw[h.name _ (ă c),Cq.Zm,ā ĳ];exact χ ŉ
 subst a;rw[Cq.Zm,ā ŉ];show(QK s).wp _;show(Cq.next _ _).wp _;refine Cq.Zo s.eqs.length (λk st=>st=(k:Int)) (λk st c a=>?_) (λst a=>?_) rfl
 .subst a;rw[Cq.Zm,ą ŉ];show(Cq.next _ _).wp _;refine Cq.Zo s.δ.length (λj st=>st=(j:Int)) (λj st d a=>?_) (λst a=>?_) rfl
  .subst a;rw[Cq.Zm,ą ŉ];refine⟨s.eqs[k],Ξ c,s.δ[j],Ξ d,?_⟩;rw[Cq.Zm,ā (h.apart _ (ă c) _ (ă d))];exact χ ŉ
  subst a;rw[Cq.Zm,ā ŉ];exact χ ŉ
 subst a;rw[Cq.Zm,ā ŉ];rfl
end Go.EL

namespace Go.EL
open Go.IntKind (i8 i16 i32 i64 u8 u16 u32 u64)
open Go Go.RowKit
abbrev Ù:=Ŀ Za
instance BT:DecidableEq Za:=λ⟨a1,a2⟩ ⟨a,c⟩=>decidable_of_iff (a1=a/\a2=c) ß
def iW:Ù:=[⟨ý 1,λ_=>0⟩]
def iK:Zc:=⟨0,[],[]⟩
def gM(l:Ŀ Ù):Ŀ Ù:=(l.filter λp=>p.isEmpty).map λ_=>iW
def hV(eqs δ:Ŀ Ù):Ŀ Ù:=kept eqs false++gM δ
def im(n:Int)(eqs δ:Ŀ Ù):Zc×Int:=
 if 1<=n/\n<=4 then
  if(eqs++δ).all (λp=>Ð p n)=true then
   if 12<(er (hV eqs δ)).length then(iK,2)
   else if 12<(er (kept δ true)).length then(iK,2)
   else(⟨n,er (hV eqs δ),er (kept δ true)⟩,0)
  else(iK,1)
 else(iK,1)
theorem Bv:Β iW where
 ord:=ū _ _
 tm:=λt a=>by rw[iW,Ē]at a;subst a;exact⟨⟨1,rfl,ĳ,ĳ,ĳ⟩,Ot⟩
 len:=ĳ
theorem LV:à iW=iW:=by decide +kernel
theorem SS:∀l:Ŀ Ù,kept (gM l) false=gM l
 |[]=>rfl
 |p::l=>by
  have a:=SS l;unfold gM at a⊢;rw[Ŏ];split
  .rw[ġ];show(à iW::List.map à _).filter _=_;rw[Ŏ,ą (by rw[LV];rfl),LV];exact đ _ a
  exact a
theorem Ztu(a b:Ŀ Ù)(plain:Bool):kept (a++b) plain=kept a plain++kept b plain:=by unfold kept;rw[List.map_append,List.filter_append]
theorem LW{l:Ŀ Ù}:∀p∈gM l,p=iW:=λp hp=>by obtain⟨_,_,h⟩:=Ğ.1 hp;exact h.symm
theorem F8(l:Ŀ Ù):(gM l).length<=l.length:=by unfold gM;rw[List.length_map];exact List.length_filter_le _ _
theorem vx(l:Ŀ Ù)(plain:Bool):(kept l plain).length<=l.length:=by unfold kept;exact Nat.le_trans (List.length_filter_le _ _) (Nat.le_of_eq (List.length_map _))
theorem TY(a b:Ŀ Ù):(hV a b).length<=a.length+b.length:=by have:=vx a false;have:=F8 b;unfold hV;rw[Ā];omega
theorem Zzn{a b:Ŀ Ù}(c:∀p∈a,Β p):∀p∈hV a b,Β p:=λp hp=>by
 rcases Ĩ.1 hp with h|h
 .exact Fy c p h
 rw[LW p h];exact Bv
theorem Km{p:Ù}(h:Β p)(a:p≠[]):0<=gk p:=by
 obtain⟨t,c⟩:=aba _ a;by_cases d:gk p<=-1
 .have:=(tC ĳ).1 d t c;have e:=(FQ (h.tm t c).m 8).1;unfold fG at this;omega
 omega
theorem ZtF{p:Ù}(h:Β p){n:Nat}(i:n<=4):(yR p (n:Int)).Γ (Ð p (n:Int)):=by
 cases g:Ð p (n:Int)with
 |true=>exact KG h i g
 |false=>
  have j:¬(lF n p/\∀t∈p,fG t.m<=12):=λc=>by rw[(pC ŉ).2 c]at g;cases g
  refine⟨true,Ao h,_,w9 h,?_⟩;by_cases f:gk p<=12
  .have c:¬lF n p:=λc=>j ⟨c,(tC ĳ).1 f⟩;have m:=ui p;have k:¬(ð p).toNat >>> n=0:=λe=>c (yP.1 e);rw[ů]at k;have a:2 ^ n<=(ð p).toNat:=by
    by_cases l:(ð p).toNat<2 ^ n
    .exact absurd (aaI l) k
    omega
   have d:u64.wrap (n:Int)=(n:Int):=by
    match n,i with
    |0,_=>rfl
    |1,_=>rfl
    |2,_=>rfl
    |3,_=>rfl
    |4,_=>rfl
   refine Cq.wp.yes f ⟨_,An h.len,by rw[d];omega,?_⟩;show _=_;rw[d,wrap64 ŉ];refine ċ ?_;match n,i with
   |0,_=>exact aaH.2 (dO ĳ (show(1:Int)<=ð p by simp at a;omega))
   |1,_=>exact aaH.2 (dO ĳ (show(2:Int)<=ð p by simp at a;omega))
   |2,_=>exact aaH.2 (dO ĳ (show(4:Int)<=ð p by simp at a;omega))
   |3,_=>exact aaH.2 (dO ĳ (show(8:Int)<=ð p by simp at a;omega))
   |4,_=>exact aaH.2 (dO ĳ (show(16:Int)<=ð p by simp at a;omega))
  exact Cq.wp.no f rfl
theorem UC{l:Ŀ Ù}(m:l.length<=100)(h:∀p∈l,Β p){n:Nat}(j:n<=4):(Gj l (n:Int)).Γ (l.all λp=>Ð p (n:Int)):=by
 refine(RS l (n:Int) 0).mono (p:=λo=>match o with|.inl v=>v=l.all λp=>Ð p (n:Int)|.inr ()=>(l.all λp=>Ð p (n:Int))=true) (λo h=>?_) (Cq.Zo l.length (λk s=>s=(k:Int)/\∀i (h:i<l.length),i<k->Ð l[i] (n:Int)=true) ?_ ?_ ⟨rfl,λi _ h=>absurd h (ı _)⟩)
 .match o,h with
  |.inl v,h=>exact h
  |.inr (),h=>exact h.symm
 .rintro k s d ⟨rfl,c⟩;refine Cq.wp.yes ŉ ⟨_,Ξ d,_,ZtF (h _ (ă d)) j,?_⟩;by_cases a:Ð l[k] (n:Int)=true
  .rw[a];refine Cq.wp.no ĳ ⟨χ ŉ,λi hi g=>?_⟩;by_cases e:i=k
   .subst e;exact a
   exact c i hi ŉ
  rw[ź.2 a];refine Cq.wp.yes ĳ ?_;show false=_;refine(ź.2 λf=>?_).symm;exact a (Ć.1 f _ (ă d))
 rintro s ⟨rfl,c⟩;refine Cq.wp.no ŉ ?_;refine Ć.2 λp hp=>?_;obtain⟨i,hi,rfl⟩:=Ŕ hp;exact c i hi hi
theorem Zvb{a b:Ŀ Ù}(f:a.length<=100)(g:b.length<=100):(I8 [a,b]).Γ (a++b):=by
 refine Cq.Zo 2 (λk s=>s=(if k=0 then 0 else if k=1 then(a.length:Int)else(a.length:Int)+(b.length:Int),(k:Int))) (λk s d c=>?_) (λs c=>?_) rfl
 .subst c;have e:k=0\/k=1:=ŉ;rcases e with rfl|rfl
  .refine Cq.wp.yes (by show(0:Int)<2;decide) ⟨a,⟨ĳ,rfl⟩,?_⟩;have:i64.wrap (0+(a.length:Int))=(a.length:Int):=by rw[wrap64 ŉ];omega
   refine Cq.wp.no (by rw[ą rfl,this];omega) ?_;show _=_;rw[ą rfl,this];rfl
  refine Cq.wp.yes (by show(1:Int)<2;decide) ⟨b,⟨ĳ,rfl⟩,?_⟩;have:i64.wrap ((a.length:Int)+(b.length:Int))=(a.length:Int)+(b.length:Int):=by rw[wrap64 ŉ]
  refine Cq.wp.no (by rw[ā ĳ,ą rfl,this];omega) ?_;show _=_;rw[ā ĳ,ą rfl,this];rfl
 subst c;refine Cq.wp.no (by show ¬(2:Int)<2;decide) ?_;refine⟨[],⟨⟨?_,?_⟩,rfl⟩,?_⟩
 .rw[ā ĳ,ā ĳ];omega
 .rw[ā ĳ,ā ĳ];omega
 refine Cq.Zo 2 (λk s=>s=(if k=0 then[]else if k=1 then a else a++b,(k:Int))) (λk s d c=>?_) (λs c=>?_) rfl
 .subst c;have e:k=0\/k=1:=ŉ;rcases e with rfl|rfl
  .refine Cq.wp.yes (by show(0:Int)<2;decide) ⟨a,⟨ĳ,rfl⟩,?_,?_⟩
   .rw[ą rfl,ļ];simp only[small];omega
   show _=_;rw[ą rfl,ļ];rfl
  refine Cq.wp.yes (by show(1:Int)<2;decide) ⟨b,⟨ĳ,rfl⟩,?_,?_⟩
  .rw[ā ĳ,ą rfl,Ā];simp only[small];omega
  show _=_;rw[ā ĳ,ą rfl];rfl
 subst c;refine Cq.wp.no (by show ¬(2:Int)<2;decide) ?_;show _=_;rw[ā ĳ,ā ĳ]
theorem vG{n:Int}(h:1<=n/\n<=4):∃m:Nat,n=(m:Int)/\1<=m/\m<=4:=⟨n.toNat,ŉ,ŉ,ŉ⟩
theorem uT:(wU 1).Γ (ý 1):=Cq.Γ.mf 20 (by decide +kernel)
theorem qe:(D3 (ý 1)).Γ iW:=Cq.Γ.mf 20 (by decide +kernel)
theorem uV:(ZX 1).Γ (ý 1):=Cq.Γ.mf 20 (by decide +kernel)
theorem qg:(Ez (ý 1)).Γ iW:=Cq.Γ.mf 20 (by decide +kernel)
theorem Q6{l:Ŀ Ù}(a:l.length<=100)(h:∀p∈l,Β p):(Ef l).Γ (er l):=⟨⟨a,Ć.2 λp hp=>(h p hp).gu⟩,rfl⟩
theorem R7(l:Ŀ Ù){k:Nat}(a:k<l.length):gM (l.take (k+1))=gM (l.take k)++(if l[k]=[]then[iW]else[]):=by
 unfold gM;rw[č a,aa7,Ī];congr 1;rw[Ŏ];by_cases h:l[k]=[]
 .rw[ą (by simpa using h),ą h];rfl
 rw[ā (by simpa using h),ā h];rfl
theorem Ztm{n:Int}{eqs δ:Ŀ Ù}(le:eqs.length<=40)(ln:δ.length<=40)(t:∀p∈eqs,Β p)(u:∀p∈δ,Β p):(Ee n eqs δ).Γ (im n eqs δ):=by
 unfold im;by_cases g:n<1
 .rw[ā (show ¬(1<=n/\n<=4) by omega)];exact Cq.wp.yes g rfl
 refine Cq.wp.no g ?_;by_cases A:4<n
 .rw[ā (show ¬(1<=n/\n<=4) by omega)];exact Cq.wp.yes A rfl
 refine Cq.wp.no A ?_;rw[ą ⟨ŉ,ŉ⟩];obtain⟨m,rfl,N,O⟩:=vG ⟨show 1<=n by omega,ŉ⟩;have q:∀p∈eqs++δ,Β p:=λp hp=>(Ĩ.1 hp).elim (t p) (u p);refine⟨eqs++δ,Zvb ŉ ŉ,?_⟩;have C:(eqs++δ).length<=100:=by rw[Ā];omega
 generalize L:eqs++δ=l at *;refine(PE (m:Int) l (0,iK)).mono (p:=λo=>match o with|.inl v=>v=(iK,1)/\(l.all λp=>Ð p (m:Int))=false|.inr _=>(l.all λp=>Ð p (m:Int))=true) (λo h=>?_) (Cq.Zo l.length (λk s=>s=((k:Int),iK)/\∀i (h:i<l.length),i<k->Ð l[i] (m:Int)=true) ?_ ?_ ⟨rfl,λi _ h=>absurd h (ı _)⟩);rotate_left
 .rintro k s a ⟨rfl,g⟩;refine Cq.wp.yes ŉ ⟨_,Ξ a,_,Znt (q _ (ă a)) ŉ,?_⟩;by_cases j:Ð l[k] (m:Int)=true
  .rw[j];refine Cq.wp.no ĳ ⟨by rw[χ ŉ],λi hi G=>?_⟩;by_cases e:i=k
   .subst e;exact j
   exact g i hi ŉ
  rw[ź.2 j];refine Cq.wp.yes ĳ ⟨rfl,ź.2 λr=>?_⟩;exact j (Ć.1 r _ (ă a))
 .rintro s ⟨rfl,g⟩;refine Cq.wp.no ŉ ?_;refine Ć.2 λp hp=>?_;obtain⟨i,hi,rfl⟩:=Ŕ hp;exact g i hi hi
 match o,h with
 |.inl v,⟨I,j⟩=>rw[j,ā ĳ];exact I
 |.inr _,r=>
  rw[ą r];show(PH (m:Int) eqs δ).Γ _;refine Cq.Zo eqs.length (λk s=>s=(kept (eqs.take k) false,(k:Int))) (λk s a d=>?_) (λs d=>?_) rfl
  .subst d;refine Cq.wp.yes ŉ ⟨_,Ξ a,?_⟩;have d:=Bb eqs false a;have:=vx (eqs.take k) false;rw[Č]at this;by_cases c:eqs[k]=[]
   .refine Cq.wp.no (by rw[c];decide) ?_;show _=_;rw[d,c,ā ĳ,ę,χ ŉ]
   have hp:0<eqs[k].length:=Š.2 c;refine Cq.wp.yes ŉ ⟨_,Kn (t _ (ă a)) c,?_,?_⟩
   .rw[Ā,ė];simp only[small];omega
   show _=_;have a:gZ false (à eqs[k])=true:=by
    have:(à eqs[k]).isEmpty=false:=by simpa using λe=>c (Bm.1 e)
    unfold gZ;rw[this];rfl
   rw[d,a,ą rfl,χ ŉ]
  subst d;refine Cq.wp.no ŉ ?_;rw[ě (ĉ _)];show(PG (m:Int) δ (kept eqs false)).Γ _;refine Cq.Zo δ.length (λk s=>s=(kept eqs false++gM (δ.take k),kept (δ.take k) true,(k:Int))) (λk s a d=>?_) (λs d=>?_) (by show _=_;rw[Ś];show _=(kept eqs false++[],_,_);rw[ę];rfl)
  .subst d;have d:=Bb δ true a;have y:=R7 δ a;have D:=vx (δ.take k) true;have J:=vx eqs false;have K:=F8 (δ.take k);rw[Č]at D K;refine Cq.wp.yes ŉ ⟨_,Ξ a,?_⟩;by_cases c:δ[k]=[]
   .refine Cq.wp.yes (by rw[c];rfl) ⟨_,uT,_,qe,?_,?_⟩
    .rw[Ā,Ā,ė];simp only[small];omega
    show _=_;rw[d,y,c,ą rfl,ā ĳ,ę,χ ŉ,Đ]
   have hp:0<δ[k].length:=Š.2 c;have f:=u _ (ă a);have x:(à δ[k]).isEmpty=false:=by simpa using λe=>c (Bm.1 e)
   have H:=Km f c;refine Cq.wp.no ŉ ⟨_,yC f,?_⟩;by_cases B:0<gk δ[k]
   .refine Cq.wp.yes B ⟨_,Kn f c,?_,?_⟩
    .rw[Ā,ė];simp only[small];omega
    show _=_;have a:gZ true (à δ[k])=true:=by unfold gZ;rw[x,xF,decide_eq_false ŉ];rfl
    rw[d,y,ā c,a,ą rfl,χ ŉ,ę]
   refine Cq.wp.no B ?_;show _=_;have a:gZ true (à δ[k])=false:=by unfold gZ;rw[xF,decide_eq_true ŉ];simp
   rw[d,y,ā c,a,ā ĳ,χ ŉ,ę,ę]
  subst d;refine Cq.wp.no ŉ ?_;rw[ě (ĉ _)];show(PF (m:Int) (hV eqs δ) (kept δ true)).Γ _;have D:=TY eqs δ;have J:=vx δ true;refine⟨_,Q6 ŉ (Zzn t),_,Q6 ŉ (Fy u),?_⟩;by_cases E:12<(er (hV eqs δ)).length
  .rw[ą E];exact Cq.wp.yes ŉ rfl
  rw[ā E];refine Cq.wp.no ŉ ?_;by_cases F:12<(er (kept δ true)).length
  .rw[ą F];exact Cq.wp.yes ŉ rfl
  rw[ā F];exact Cq.wp.no ŉ rfl
theorem Rm{n:Int}{eqs δ:Ŀ Ù}(le:eqs.length<=40)(ln:δ.length<=40)(g:∀p∈eqs,Β p)(j:∀p∈δ,Β p):(Fg n eqs δ).Γ (im n eqs δ):=by
 unfold im;by_cases d:n<1
 .rw[ā (show ¬(1<=n/\n<=4) by omega)];exact Cq.wp.yes d rfl
 refine Cq.wp.no d ?_;by_cases f:4<n
 .rw[ā (show ¬(1<=n/\n<=4) by omega)];exact Cq.wp.yes f rfl
 refine Cq.wp.no f ?_;rw[ą ⟨ŉ,ŉ⟩];obtain⟨m,rfl,A,r⟩:=vG ⟨show 1<=n by omega,ŉ⟩;refine⟨_,UC ŉ g r,?_⟩;rw[List.all_append];cases x:eqs.all λp=>Ð p (m:Int)with
 |false=>exact rfl
 |true=>
 refine⟨_,UC ŉ j r,?_⟩;cases y:δ.all λp=>Ð p (m:Int)with
 |false=>exact Cq.wp.yes ĳ rfl
 |true=>
 refine Cq.wp.no ĳ ?_;rw[ą ĳ];refine⟨?_,?_⟩
 .rw[ļ];simp only[small];omega
 rw[ļ];refine Cq.Zo δ.length (λk s=>s=(eqs++gM (δ.take k),(k:Int))) (λk s i c=>?_) (λs c=>?_) (by show _=_;rw[Ś];show _=(eqs++[],_);rw[ę];rfl)
 .subst c;have l:=R7 δ i;have q:=F8 (δ.take k);rw[Č]at q;refine Cq.wp.yes ŉ ⟨_,Ξ i,?_⟩;by_cases a:δ[k]=[]
  .refine Cq.wp.yes (by rw[a];rfl) ⟨_,uV,_,qg,?_,?_⟩
   .rw[Ā,Ā,ė];simp only[small];omega
   show _=_;rw[l,a,ą rfl,χ ŉ,Đ]
  have hp:0<δ[k].length:=Š.2 a;refine Cq.wp.no ŉ ?_;show _=_;rw[l,ā a,χ ŉ,ę]
 subst c;refine Cq.wp.no ŉ ?_;rw[ě (ĉ _)];show(Qj (m:Int) δ (eqs++gM δ)).Γ _;have q:=F8 δ;have v:∀p∈eqs++gM δ,Β p:=λp hp=>(Ĩ.1 hp).elim (g p) (λh=>by rw[LW p h];exact Bv);have e:kept (eqs++gM δ) false=hV eqs δ:=by rw[Ztu,SS];rfl
 refine⟨_,PW (by rw[Ā];omega) v false,_,PW ŉ j true,?_⟩;rw[e];by_cases t:12<(er (hV eqs δ)).length
 .rw[ą t];exact Cq.wp.yes ŉ rfl
 rw[ā t];refine Cq.wp.no ŉ ?_;by_cases u:12<(er (kept δ true)).length
 .rw[ą u];exact Cq.wp.yes ŉ rfl
 rw[ā u];exact Cq.wp.no ŉ rfl
end Go.EL

namespace Go.EL
open Go.IntKind (i8 i16 i32 i64 u8 u16 u32 u64)
open Go Go.RowKit
theorem Tm:∀(f:Nat) (n:Int),(iG f n).length<=f+1
 |0,_=>by simp[iG]
 |f+1,n=>by
  unfold iG;split
  .have:=Tm f (u64.wrap (Int.tdiv n 128));rw[Ě];omega
  simp
theorem re(n:Int):(fw n).length<=11:=Tm 10 n
theorem qx{n:Int}(a:0<=n):0<=Int.tdiv n 128/\Int.tdiv n 128=n / 128:=⟨Int.tdiv_nonneg a ĳ,aa8 a⟩
theorem Tl:∀(f:Nat) (b:Ŀ Int) (n:Int),0<=n->n<128 ^ (f+1)->n<18446744073709551616->b.length+f+1<=1000000->(Fb (b,n)).wp λo=>(Fc o.1 o.2).Γ (b++iG f n)
 |0,b,n,c,d,h2,g=>by refine Cq.Zt (Cq.wp.no ŉ ?_);show(Fc b n).Γ _;refine⟨?_,rfl⟩;rw[Ā,ė];simp only[small];omega
 |f+1,b,n,c,d,h2,g=>by
  by_cases h:127<n
  .refine Cq.Zt (Cq.wp.yes h ⟨?_,?_⟩)
   .rw[Ā,ė];simp only[small];omega
   obtain⟨d0,d1⟩:=qx c;have a:n / 128<128 ^ (f+1):=Int.ediv_lt_of_lt_mul ĳ (by rw[<-Int.pow_succ];exact d);have i:u64.wrap (Int.tdiv n 128)=n / 128:=by rw[d1];exact qG ⟨ŉ,ŉ⟩
   show(Fb _).wp _;have j:=Tl f (b++[u8.wrap (u8.wrap (Int.tmod n 128)+128)]) (u64.wrap (Int.tdiv n 128)) ŉ (by rw[i];exact a) ŉ (by rw[Ā,ė];omega);refine(Fb _).mono (λo e=>?_) j;rw[Đ]at e;unfold iG;rw[ą (show 128<=n by omega)];exact e
  refine Cq.Zt (Cq.wp.no h ?_);show(Fc b n).Γ _;unfold iG;rw[ā (show ¬128<=n by omega)];refine⟨?_,rfl⟩;rw[Ā,ė];simp only[small];omega
theorem Ov:(128:Int) ^ (10+1)=151115727451828646838272:=ĳ
theorem vv{b:Ŀ Int}{n:Int}(h:0<=n/\n<18446744073709551616)(c:b.length<=900000):(uo b n).Γ (b++fw n):=by have a:=Ov;exact Tl 10 b n h.1 ŉ h.2 ŉ
theorem xK{n:Nat}(h:n<=1000000):u64.wrap (n:Int)=(n:Int):=qG ⟨ŉ,ŉ⟩
theorem Lg(d:Int):(fE d).length=4:=rfl
theorem ud{α:Type}{f:α->Ŀ Int}{K:Nat}:∀{l:Ŀ α},(∀x∈l,(f x).length<=K)->(l.flatMap f).length<=K*l.length
 |[],_=>ĉ _
 |x::l,h=>by have c:=h x ß;have h2:=ud (l:=l) (λy a=>h y (by simp[a]));rw[ř,Ā,Ě,Nat.mul_succ];omega
theorem Fw{α:Type}(f:α->Ŀ Int)(l:Ŀ α){k:Nat}(a:k<l.length):(l.take (k+1)).flatMap f=(l.take k).flatMap f++f l[k]:=by rw[č a,du];simp
theorem Lv{a:Zg}(h:a.υ.length<=1):(lr a).length<=15:=by unfold lr;rw[Ā];have c:=re (if a.neg=true then u64.wrap (u64.wrap (2*u64.wrap (a.υ.length:Int))+1)else u64.wrap (2*u64.wrap (a.υ.length:Int)));have h2:=ud (K:=4) (l:=a.υ) (f:=fE) (λx _=>aaS (Lg x));omega
theorem RW{b:Ŀ Int}{a:Zg}(h:a.υ.length<=1)(m:b.length<=800000):(A1 b a).Γ (b++lr a):=by
 have key:∀s:Int,0<=s->s<=1->(ED b a s).Γ (b++(fw (u64.wrap (u64.wrap (u64.wrap (a.υ.length:Int)*2)+s))++a.υ.flatMap fE)):=λs p q=>by
  have e:=xK (n:=a.υ.length) ŉ;have c:u64.wrap ((a.υ.length:Int)*2)=(a.υ.length:Int)*2:=qG ⟨ŉ,ŉ⟩;have j:u64.wrap ((a.υ.length:Int)*2+s)=(a.υ.length:Int)*2+s:=qG ⟨ŉ,ŉ⟩;refine⟨_,vv (by rw[e,c,j];omega) ŉ,?_⟩;have d:=re (u64.wrap (u64.wrap (u64.wrap (a.υ.length:Int)*2)+s));generalize fw (u64.wrap (u64.wrap (u64.wrap (a.υ.length:Int)*2)+s))=N at *;refine Cq.Zo a.υ.length (λk st=>st=(b++N++(a.υ.take k).flatMap fE,(k:Int))) (λk st i g=>?_) (λst g=>?_) (by show _=_;simp)
  .subst g;refine Cq.wp.yes ŉ ⟨_,Ξ i,?_,?_⟩
   .have:=ud (K:=4) (l:=a.υ.take k) (f:=fE) (λx _=>aaS (Lg x));rw[Č]at this;simp only[Ā,Ě,Ļ,small];omega
   show _=_;rw[χ ŉ,Fw fE a.υ i,<-Đ];rfl
  subst g;refine Cq.wp.no ŉ ?_;rw[ě (ĉ _)];show _=_;rw[Đ]
 unfold A1;have e:=xK (n:=a.υ.length) ŉ;have c:u64.wrap ((a.υ.length:Int)*2)=(a.υ.length:Int)*2:=qG ⟨ŉ,ŉ⟩;by_cases d:a.neg=true
 .refine Cq.wp.yes d ?_;have:=key 1 ĳ ĳ;unfold lr;rw[ą d,aaB 2];exact this
 refine Cq.wp.no d ?_;have:=key 0 ĳ ĳ;unfold lr;rw[ā d,aaB 2];rw[aaA,e,c,c]at this;rw[e,c];exact this
theorem Β.CU{p:Ù}(h:Β p){t:Za}(d:t∈p):t.c.num.υ.length<=1/\t.c.den.υ.length<=1:=by obtain⟨a,c⟩:=h.parts d;rw[a,c];refine⟨?_,ĉ 1⟩;show(uQ _).length<=1;unfold uQ;split<;>simp
theorem T7{p:Ù}(h:Β p){t:Za}(c:t∈p):(mu t.c).length<=30:=by obtain⟨a,h2⟩:=h.CU c;have:=Lv a;have:=Lv h2;unfold mu;rw[Ā];omega
theorem LP(m:M):∀k,(iF m k).length<=11*k
 |0=>ĉ _
 |k+1=>by have:=LP m k;have:=re (u64.wrap (Η m (k:Int)));unfold iF;rw[Ā];omega
theorem Sw{p:Ù}(h:Β p){t:Za}(a:t∈p):(fW t).length<=118:=by have:=T7 h a;have:=LP t.m 8;unfold fW;rw[Ā];omega
theorem FA{p:Ù}(h:Β p):(fD p).length<=11811:=by have c:=re (u64.wrap (p.length:Int));have h2:=ud (f:=fW) (K:=118) (λt a=>Sw h a);have h3:=h.len;have:118*p.length<=11800:=ŉ;unfold fD;rw[Ā];omega
theorem AS{l:Ŀ Ù}(h:∀p∈l,Β p)(c:l.length<=12):(fS l).length<=150000:=by have a:=re (u64.wrap (l.length:Int));have h2:=ud (f:=fD) (K:=11811) (λp hp=>FA (h p hp));have:11811*l.length<=141732:=ŉ;unfold fS;rw[Ā];omega
theorem S9{b:Ŀ Int}{p:Ù}(h:Β p)(A:b.length<=700000):(FV b p).Γ (b++fD p):=by
 have C:=h.len;have m:=xK (n:=p.length) ŉ;refine⟨_,vv (by rw[m];omega) ŉ,?_⟩;unfold fD;have E:=re (u64.wrap (p.length:Int));generalize fw (u64.wrap (p.length:Int))=N at *;refine Cq.Zo p.length (λk st=>st=(b++N++(p.take k).flatMap fW,(k:Int))) (λk st d a=>?_) (λst a=>?_) (by show _=_;simp)
 .subst a;have e:=ă d;obtain⟨i,y⟩:=h.CU e;have r:=ud (K:=118) (l:=p.take k) (f:=fW) (λx v=>Sw h (Ŝ v));rw[Č]at r;have s:118*min k p.length<=11800:=ŉ;have hr:=T7 h e;refine Cq.wp.yes ŉ ⟨_,Ξ d,b++N++(p.take k).flatMap fW++mu p[k].c,⟨_,RW i (by simp only[Ā];omega),_,RW y (by
   have:=Lv i;simp only[Ā];omega),?_⟩,?_⟩
  .show _=_;unfold mu;simp only[Đ]
  generalize g:b++N++(p.take k).flatMap fW++mu p[k].c=B;have q:B.length<=750000:=by rw[<-g];simp only[Ā];omega
  refine Cq.Zo 8 (λj st=>st=(B++iF p[k].m j,(j:Int))) (λj st c a=>?_) (λst a=>?_) (by show _=_;simp[iF])
  .subst a;have D:=(h.mono _ e) ⟨j,c⟩;have t:=LP p[k].m j;have u:u64.wrap (p[k].m ⟨j,c⟩)=p[k].m ⟨j,c⟩:=qG ⟨ŉ,ŉ⟩;refine Cq.wp.yes ŉ ⟨_,Ξ d,⟨ŉ,ŉ⟩,B++iF p[k].m j++fw (u64.wrap (Η p[k].m (j:Int))),vv (by rw[Õ c,u];omega) (by rw[Ā];omega),?_⟩;show _=_;rw[χ ŉ,Đ];rfl
  subst a;refine Cq.wp.no ĳ ?_;show _=_;rw[χ ŉ,Fw fW p d,<-g];unfold fW;simp only[Đ]
 subst a;refine Cq.wp.no ŉ ?_;rw[ě (ĉ _)];show _=_;rw[Đ]
theorem RT{b:Ŀ Int}{l:Ŀ Ù}(h:∀p∈l,Β p)(m:l.length<=12)(j:b.length<=500000):(FI b l).Γ (b++fS l):=by
 have d:=xK (n:=l.length) ŉ;refine⟨_,vv (by rw[d];omega) ŉ,?_⟩;unfold fS;have q:=re (u64.wrap (l.length:Int));generalize fw (u64.wrap (l.length:Int))=N at *;refine Cq.Zo l.length (λk st=>st=(b++N++(l.take k).flatMap fD,(k:Int))) (λk st a c=>?_) (λst c=>?_) (by show _=_;simp)
 .subst c;have e:=ud (K:=11811) (l:=l.take k) (f:=fD) (λx i=>FA (h x (Ŝ i)));rw[Č]at e;have g:11811*min k l.length<=141732:=ŉ;refine Cq.wp.yes ŉ ⟨_,Ξ a,_,S9 (h _ (ă a)) (by simp only[Ā];omega),?_⟩;show _=_;rw[χ ŉ,Fw fD l a];simp only[Đ]
 subst c;refine Cq.wp.no ŉ ?_;rw[ě (ĉ _)];show _=_;rw[Đ]
structure iO (n:Int) (least:Int) (l:Ŀ Ù):Prop where
 len:l.length<=12
 hN:∀p∈l,Β p/\Ð p n=true/\p≠[]/\à p=p/\least<=gk p
 st:hQ l
structure æ (k:Zc):Prop where
 n:1<=k.n/\k.n<=4
 eqs:iO k.n 0 k.eqs
 δ:iO k.n 1 k.δ
theorem F7(n:Int):(lx n).length<=11:=re _
theorem S7{k:Zc}(g:0<=k.n/\k.n<=1000)(c:∀p∈k.eqs,Β p)(hi:∀p∈k.δ,Β p)(le:k.eqs.length<=12)(e:k.δ.length<=12):(vt [] k).Γ (gY k):=by
 have d:u64.wrap k.n=k.n:=qG ⟨ŉ,ŉ⟩;have a:u64.wrap (k.n*2)=k.n*2:=qG ⟨ŉ,ŉ⟩;have f:=F7 k.n;have h2:=AS c le;refine⟨lx k.n,Cq.wp.no ŉ ⟨_,vv (b:=[]) (by rw[d,a];omega) ß,?_⟩,_,RT c le ŉ,_,RT hi e (by rw[Ā];omega),?_⟩
 .show _=_;unfold lx;rw[aaB 2];rfl
 rfl
theorem æ.Dc{k:Zc}(h:æ k):(vt [] k).Γ (gY k):=S7 ⟨by have:=h.n;omega,by have:=h.n;omega⟩ (λp hp=>(h.eqs.hN p hp).1) (λp hp=>(h.δ.hN p hp).1) h.eqs.len h.δ.len
theorem Zwd{k:Zc}(h:æ k):(gY k).length<=1000000:=by have a:=F7 k.n;have h2:=AS (λp hp=>(h.eqs.hN p hp).1) h.eqs.len;have h3:=AS (λp hp=>(h.δ.hN p hp).1) h.δ.len;unfold gY;simp only[Ā];omega
theorem Fv{p:Ù}{n:Int}(h:Ð p n=true):(Int.fdiv (i64.wrap (ð p)) (2 ^ (min n.toNat i64.bits)))=0/\gk p<=12:=by
 unfold Ð at h;split at h
 .exact⟨‹_›,ĥ h⟩
 cases h
theorem Su{l:Ŀ Ù}(h:hQ l){k:Nat}(a:k+1<l.length):í l[k] l[k+1]<0:=Ģ.1 h k (k+1) ŉ a ŉ
theorem Q5{k:Zc}(p:1<=k.n/\k.n<=4){least:Int}{l:Ŀ Ù}(h:iO k.n least l):(ÿ ⟨k⟩ l least).Γ true:=by
 have n:=h.len;refine Cq.wp.no ŉ ?_;refine Cq.Zo l.length (λj s=>s=(j:Int)) (λj s c d=>?_) (λs d=>?_) rfl
 .subst d;obtain⟨a,f,g,q4,q5⟩:=h.hN _ (ă c);obtain⟨f1,f2⟩:=Fv f;refine Cq.wp.yes ŉ ⟨_,Ξ c,true,⟨true,D4 a,_,FO a.len,by show 0<=k.n;omega,Cq.wp.yes f1 ⟨_,yC a,Ă f2⟩⟩,_,yC a,Cq.wp.no ŉ ⟨_,Kn a g,true,?_,Cq.wp.no ĳ ?_⟩⟩
  .rw[q4];have:=Fh a.gu a.gu;rw[xw]at this;exact this
  by_cases e:(0:Int)<(j:Int)
  .obtain⟨i,rfl⟩:∃i,j=i+1:=⟨j-1,ŉ⟩;have hi:i64.wrap (((i+1:Nat):Int)-1)=(i:Int):=by rw[wrap64 ŉ];omega
   have m:=Su h.st c;refine Cq.wp.yes e ?_;rw[hi];refine⟨_,Ξ ŉ,_,Te (h.hN _ (ă ŉ)).1.gu a.gu,Cq.wp.no ŉ ?_⟩;exact χ ŉ
  exact Cq.wp.no e (χ ŉ)
 subst d;exact Cq.wp.no ŉ rfl
theorem EW{k:Zc}(h:æ k):(vj k).Γ true:=
 ⟨true,Cq.wp.yes h.n.1 (Cq.wp.yes h.n.2 ⟨true,Q5 h.n h.eqs,true,Q5 h.n h.δ,rfl⟩),rfl⟩
theorem Zrb{p:Ù}(h:Β p){n:Nat}(e:n<=4)(d:Ð p (n:Int)=true):(xg p (n:Int) 12).Γ true:=by
 have g:=(pC (p:=p) (n:=n) ŉ).1 d;obtain⟨f1,f2⟩:=Fv d;have c:u64.wrap (n:Int)=(n:Int):=by
  match n,e with
  |0,_=>rfl
  |1,_=>rfl
  |2,_=>rfl
  |3,_=>rfl
  |4,_=>rfl
 have i:=ui p;have f:=yP.2 g.1;rw[ů]at f;have a:(ð p).toNat<2 ^ n:=by
  rcases lv.1 f with h|h
  .have:=aab n;omega
  exact h
 refine⟨true,Ao h,_,An h.len,by rw[c];omega,Cq.wp.yes ?_ ⟨_,w9 h,Ă f2⟩⟩;rw[c,wrap64 ŉ];match n,e with
 |0,_=>exact Œ (show ð p<1 by simp at a;omega) ĳ
 |1,_=>exact Œ (show ð p<2 by simp at a;omega) ĳ
 |2,_=>exact Œ (show ð p<4 by simp at a;omega) ĳ
 |3,_=>exact Œ (show ð p<8 by simp at a;omega) ĳ
 |4,_=>exact Œ (show ð p<16 by simp at a;omega) ĳ
theorem QA{n:Int}(f:1<=n/\n<=4){least:Int}{l:Ŀ Ù}(h:iO n least l):(Ff l n).Γ true:=by
 have r:=h.len;obtain⟨m,rfl,t,g⟩:=vG f;refine Cq.wp.no ŉ ?_;refine Cq.Zo l.length (λj s=>s=(j:Int)) (λj s a d=>?_) (λs d=>?_) rfl
 .subst d;obtain⟨c,k,p,q4,q5⟩:=h.hN _ (ă a);have hp:0<l[j].length:=Š.2 p;refine Cq.wp.yes ŉ ⟨_,Ξ a,true,Zrb c g k,_,Ξ a,Cq.wp.no ŉ ⟨_,Ξ a,_,PV c,_,Ξ a,true,?_,?_⟩⟩
  .rw[q4];have:=Ki c.gu c.gu;rw[xw]at this;exact this
  show(if(0:Int)<(j:Int)then _ else _:Cq _).wp _;by_cases e:(0:Int)<(j:Int)
  .obtain⟨i,rfl⟩:∃i,j=i+1:=⟨j-1,ŉ⟩;have hi:i64.wrap (((i+1:Nat):Int)-1)=(i:Int):=by rw[wrap64 ŉ];omega
   have q:=Su h.st a;refine Cq.wp.yes e ?_;rw[hi];refine⟨_,Ξ ŉ,_,Ξ a,_,S8 (h.hN _ (ă ŉ)).1.gu c.gu,Cq.wp.no ŉ ?_⟩;exact χ ŉ
  exact Cq.wp.no e (χ ŉ)
 subst d;exact Cq.wp.no ŉ rfl
theorem Ku{k:Zc}(h:æ k):(A0 k).Γ true:=by
 have f:=h.n;have e:=h.δ.len;refine Cq.wp.no ŉ (Cq.wp.no ŉ ⟨true,QA h.n h.eqs,true,QA h.n h.δ,Cq.wp.no ĳ ?_⟩);refine Cq.Zo k.δ.length (λj s=>s=(j:Int)) (λj s c a=>?_) (λs a=>?_) rfl
 .subst a;obtain⟨d,g,i,q4,q5⟩:=h.δ.hN _ (ă c);refine Cq.wp.yes ŉ ⟨_,Ξ c,_,w9 d,Cq.wp.no ŉ ?_⟩;exact χ ŉ
 subst a;exact Cq.wp.no ŉ rfl
def ü(k:Zc):Ĳ:=bytesOf (gY k)
theorem zd{k:Zc}(h:æ k):(vn k).Γ (ü k):=⟨true,EW h,⟨by have:=h.n;omega,Zwd h⟩,rfl⟩
theorem Tk{k:Zc}(h:æ k):(Gi k).Γ (ü k):=⟨true,Ku h,Cq.wp.no ĳ ⟨_,h.Dc,rfl⟩⟩
end Go.EL

