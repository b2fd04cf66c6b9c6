/- The law TaskMatchesReference holds for every input: a part of its proof (fX the code does, plain models, and fX they return). No condition. -/
import Derived.Test.YtepbagkffgddlaaGreatXMR20c
import Derived.Test.YtepbagkffgddlaaGreatXMR20b
set_option linter.unusedVariables false
set_option linter.unusedSimpArgs false
namespace Go.EL
open Go.IntKind (i8 i16 i32 i64 u8 u16 u32 u64)
open Go Go.EL Go.RowKit Go.Proofs
def fk(c:Zf):Bool:=match c.num.υ,c.den.υ with
 |[w],[d]=>!c.den.neg&&decide (d=1)&&decide (1<=w)&&decide (w<=12)
 |_,_=>false
def Í(c:Zf):Int:=if c.num.neg=true then-c.num.υ.headD 0 else c.num.υ.headD 0
def fA(s t:Za):Int:=if s.m=t.m then(if Í s.c<Í t.c then -1 else if Í s.c=Í t.c then 0 else 1)else Û s.m t.m
def ì:Ŀ Za->Ŀ Za->Int
 |[],[]=>0
 |[],_::_=>-1
 |_::_,[]=>1
 |s::p,t::q=>if fA s t=0 then ì p q else fA s t
def Ñ(p:Ŀ Za):Bool:=decide (p.length<=1000)&&p.all λt=>fk t.c
def zB(x:Ŀ Za):Ŀ (Ŀ Za)->Ŀ (Ŀ Za)
 |[]=>[x]
 |y::l=>if 0<ì x y then y::zB x l else x::y::l
def jx(l:Ŀ (Ŀ Za)):Ŀ (Ŀ Za):=l.foldr zB []
def jN(x:Ŀ Za):Ŀ (Ŀ Za)->Ŀ (Ŀ Za)
 |[]=>[]
 |y::l=>if ì y x=0 then jN y l else y::jN y l
def gd:Ŀ (Ŀ Za)->Ŀ (Ŀ Za)
 |[]=>[]
 |x::l=>x::jN x l
def D3(l:Ŀ (Ŀ Za)):Cq (Ŀ (Ŀ Za)):=Cq.ë (l.length<=100/\l.all Ñ=true) (Cq.ret (gd (jx l)))
def iH:Nat->Int->Ŀ Int
 |0,n=>[u8.wrap n]
 |f+1,n=>if 128<=n then u8.wrap (u8.wrap (Int.tmod n 128)+128)::iH f (u64.wrap (Int.tdiv n 128))else[u8.wrap n]
def fw(n:Int):Ŀ Int:=iH 10 n
def ls(n:Int):Ŀ Int:=fw (u64.wrap (2*u64.wrap n))
def fF(d:Int):Ŀ Int:=[u8.wrap (Int.fdiv d (2 ^ (min (24:Int).toNat u32.bits))),u8.wrap (Int.fdiv d (2 ^ (min (16:Int).toNat u32.bits))),u8.wrap (Int.fdiv d (2 ^ (min (8:Int).toNat u32.bits))),u8.wrap d]
def lq(a:Zg):Ŀ Int:=fw (if a.neg=true then u64.wrap (u64.wrap (2*u64.wrap (a.υ.length:Int))+1)else u64.wrap (2*u64.wrap (a.υ.length:Int)))++a.υ.flatMap fF
def mq(a:Zf):Ŀ Int:=lq a.num++lq a.den
def iG(m:Fin 8->Int):Nat->Ŀ Int
 |0=>[]
 |k+1=>iG m k++fw (u64.wrap (Ε m (k:Int)))
def fU(t:Za):Ŀ Int:=mq t.c++iG t.m 8
def fE(p:Ŀ Za):Ŀ Int:=fw (u64.wrap (p.length:Int))++p.flatMap fU
def fS(l:Ŀ (Ŀ Za)):Ŀ Int:=fw (u64.wrap (l.length:Int))++l.flatMap fE
def gU(k:Zb):Ŀ Int:=ls k.n++fS k.eqs++fS k.ε
def ye(f:Fin 8->Int)(a b:Nat):Fin 8->Int:=ζ (ζ f a (Ε f (b:Int))) b (Ε f (a:Int))
def oY(f:Fin 8->Int)(b a:Nat):Nat->Fin 8->Int
 |0=>f
 |k+1=>ye (oY f b a k) (b+k) (b+(a-1-k))
def kF(p:Fin 8->Int):Nat->ŀ Nat
 |0=>none
 |k+1=>if Ε p ((k+1:Nat):Int)<Ε p (k:Int)then kF p k else some k
def vT(p:Fin 8->Int)(x:Int):Nat->Nat
 |0=>0
 |j+1=>if Ε p ((j+1:Nat):Int)<x then vT p x j else j+1
def n0(n:Nat)(p:Fin 8->Int):ŀ (Fin 8->Int):=match kF p (n-1)with
 |none=>none
 |some i=>some (oY (ye p i (vT p (Ε p (i:Int)) (n-1))) (i+1) (n-(i+1)) ((n-(i+1)) / 2))
def sJ(n:Nat):Nat->(Fin 8->Int)->Ŀ (Fin 8->Int)
 |0,_=>[]
 |k+1,p=>p::match n0 n p with|none=>[]|some q=>sJ n k q
def Β(n:Nat):Ŀ (Fin 8->Int):=sJ n 24 λi=>(i.val:Int)
def kv(n:Int):Ŀ Int:=if 0<=n then ls n else fw (u64.wrap (u64.wrap (2*u64.wrap (i64.wrap (0-i64.wrap (n+1))))+1))
def fW(m:Fin 8->Int):Nat->Ŀ Int
 |0=>[]
 |k+1=>fW m k++kv (Ε m (k:Int))
def jy(o:Ŀ (Fin 8->Int)):Ŀ Int:=fw (u64.wrap (o.length:Int))++o.flatMap λm=>fW m 8
def oI(q:Zc):Ŀ Int:=kv q.kind++fE q.p++jy q.o
def lk(s t:Ze):Int:=if s.χ<t.χ then -1 else if t.χ<s.χ then 1 else if s.id<t.id then -1 else if t.id<s.id then 1 else 0
def Ar:Ĳ:=⟨#[90,101,100]⟩
def As:Ĳ:=⟨#[121,95,49]⟩
def Au:Ĳ:=⟨#[120]⟩
def QO:Ĳ:=⟨#[0,1,2,2,3,3,3,3,4,4,4,4,4,4,4,4,5,5,5,5,5,5,5,5,5,5,5,5,5,5,5,5,6,6,6,6,6,6,6,6,6,6,6,6,6,6,6,6,6,6,6,6,6,6,6,6,6,6,6,6,6,6,6,6,7,7,7,7,7,7,7,7,7,7,7,7,7,7,7,7,7,7,7,7,7,7,7,7,7,7,7,7,7,7,7,7,7,7,7,7,7,7,7,7,7,7,7,7,7,7,7,7,7,7,7,7,7,7,7,7,7,7,7,7,7,7,7,7,8,8,8,8,8,8,8,8,8,8,8,8,8,8,8,8,8,8,8,8,8,8,8,8,8,8,8,8,8,8,8,8,8,8,8,8,8,8,8,8,8,8,8,8,8,8,8,8,8,8,8,8,8,8,8,8,8,8,8,8,8,8,8,8,8,8,8,8,8,8,8,8,8,8,8,8,8,8,8,8,8,8,8,8,8,8,8,8,8,8,8,8,8,8,8,8,8,8,8,8,8,8,8,8,8,8,8,8,8,8,8,8,8,8,8,8,8,8,8,8,8,8,8,8,8,8,8,8]⟩
def OZ(k:Int):Cq (Ŀ (Ŀ Za)):=Cq.ë (0<=k/\k<=1000000) (Cq.ret [])
def Znb(b:(Fin 8->Int))(c:(Fin 8->Int))(a:Int):Cq Int:=
 Cq.ë (0<=a/\a<8) (Cq.ë (0<=a/\a<8) (if(Ε b a)<(Ε c a)then(Cq.ret (-1))else(Cq.ret 1)))
def Zna(b:(Fin 8->Int))(c:(Fin 8->Int)):Int->Cq Int:=
 Cq.loop λd=>match d with|a=>Cq.ë (0<=a/\a<8) (Cq.ë (0<=a/\a<8) (if(Ε b a)=(Ε c a)then(Cq.ret (.inl (i64.wrap (a+1))))else(Cq.ret (.inr a))))
def yB(a:(Fin 8->Int))(b:(Fin 8->Int)):Cq Int:=
 if a=b then(Cq.ret 0)else(Cq.next (Zna a b 0) λc=>match c with|d=>Znb a b d)
def O8(b:Za)(c:Za):Cq Int:=
 Cq.bind (yB c.m b.m) λa=>Cq.ret a
def Z0(l:Ŀ Za)(a b c:Int):Cq (Ŀ Za):=
 Cq.ë (a=0/\b=(l.length:Int)/\(0<=c/\c<1000000)/\l.length<=1000000) (Cq.any (λd=>d.Perm l/\d.Pairwise (λx y=>¬Û x.m y.m<0)) Cq.ret)
def u7(a:Zg):Cq Int:=
 if(a.υ.length:Int)=0 then(Cq.ret 0)else(if a.neg=true then(Cq.ret (-1))else(Cq.ret 1))
def ZH(b:Zf):Cq Int:=
 Cq.bind (u7 b.num) λa=>Cq.ret a
def Zm1(b:(Ŀ Int))(a:Int):Cq (Ŀ Int):=
 Cq.ë (0<=(0:Int)/\(0:Int)<=a/\a<=(b.length:Int)) (Cq.ret ((b.take a.toNat).drop (0:Int).toNat))
def Zm0(b:(Ŀ Int)):Int->Cq Int:=
 Cq.loop λc=>match c with|a=>if 0<a then(Cq.Θ b (i64.wrap (a-1)) λd=>if d=0 then(Cq.ret (.inl (i64.wrap (a-1))))else(Cq.ret (.inr a)))else(Cq.ret (.inr a))
def ZY(a:(Ŀ Int)):Cq (Ŀ Int):=
 Cq.next (Zm0 a (a.length:Int)) λb=>match b with|c=>Zm1 a c
def Ac(a:Int):Cq (Ŀ Int):=
 Cq.bind (ZY [u32.wrap a,u32.wrap (Int.fdiv a (2 ^ (min (32:Int).toNat u64.bits)))]) λb=>Cq.ret b
def ZS(b:Bool)(c:(Ŀ Int)):Cq Zg:=
 Cq.bind (ZY c) λa=>if(a.length:Int)=0 then(Cq.ret (Zg.mk false []))else(Cq.ret (Zg.mk b a))
def yK(a:Int):Cq Zg:=
 if a<0 then(Cq.bind (Ac (u64.wrap (0-(u64.wrap a)))) λb=>Cq.bind (ZS (decide (a<0)) b) λc=>Cq.ret c)else(Cq.bind (Ac (u64.wrap a)) λd=>Cq.bind (ZS (decide (a<0)) d) λe=>Cq.ret e)
def wN(a:Zg):Cq Bool:=
 if a.neg=true then(Cq.ret false)else(if(a.υ.length:Int)=1 then(Cq.Θ a.υ 0 λb=>Cq.ret (decide (b=1)))else(Cq.ret false))
def Zj0(a:(Ŀ Int)):Cq (Ŀ Int):=
 Cq.bind (ZY a) λb=>Cq.ret b
def Zj1(b:(Ŀ Int))(a:Int)(c:(Ŀ Int))(d:Int):Cq (((Ŀ Int)×Int)⊕(Ŀ Int)):=
 Cq.Θ c (i64.wrap (a+(b.length:Int))) λe=>Cq.ret (.inl ((c.set (i64.wrap (a+(b.length:Int))).toNat (u32.wrap d)),i64.wrap (a+1)))
def ZjZ(e:(Ŀ Int))(b:Int)(f:Int):((Ŀ Int)×Int×Int)->Cq (((Ŀ Int)×Int)):=
 Cq.loop λi=>match i with|(c,d,a)=>if a<(e.length:Int)then(Cq.Θ e a λg=>Cq.Θ c (i64.wrap (b+a)) λh=>Cq.Θ c (i64.wrap (b+a)) λj=>Cq.ret (.inl ((c.set (i64.wrap (b+a)).toNat (u32.wrap (u64.wrap ((u64.wrap ((u64.wrap ((u64.wrap f)*(u64.wrap g)))+(u64.wrap h)))+d)))),Int.fdiv (u64.wrap ((u64.wrap ((u64.wrap ((u64.wrap f)*(u64.wrap g)))+(u64.wrap h)))+d)) (2 ^ (min (32:Int).toNat u64.bits)),i64.wrap (a+1))))else(Cq.ret (.inr (c,d)))
def ZjY(b:(Ŀ Int))(c:(Ŀ Int)):((Ŀ Int)×Int)->Cq (Ŀ Int):=
 Cq.loop λg=>match g with|(d,a)=>if a<(b.length:Int)then(Cq.Θ b a λh=>Cq.next (ZjZ c a h (d,0,0)) λi=>match i with|(e,f)=>Zj1 c a e f)else(Cq.ret (.inr d))
def Pg(a:(Ŀ Int))(b:(Ŀ Int)):Cq (Ŀ Int):=
 Cq.ë (0<=i64.wrap ((a.length:Int)+(b.length:Int))/\(i64.wrap ((a.length:Int)+(b.length:Int)))<=1000000) (Cq.next (ZjY a b ((List.replicate (i64.wrap ((a.length:Int)+(b.length:Int))).toNat 0),0)) λd=>match d with|c=>Zj0 c)
def EE(a:Zg)(b:Zg):Cq Zg:=
 Cq.bind (Pg a.υ b.υ) λc=>Cq.bind (ZS (decide (¬a.neg=b.neg)) c) λd=>Cq.ret d
def Zjf(a:Zg):Cq Zg:=
 Cq.ret a
def Zje(d:(Ŀ Zg)):(Int×Zg)->Cq Zg:=
 Cq.loop λh=>match h with|(a,b)=>if a<(d.length:Int)then(Cq.Θ d a λc=>Cq.bind (wN c) λe=>if e=true then(Cq.ret (.inl (i64.wrap (a+1),b)))else(Cq.bind (wN b) λf=>if f=true then(Cq.ret (.inl (i64.wrap (a+1),c)))else(Cq.bind (EE b c) λg=>Cq.ret (.inl (i64.wrap (a+1),g)))))else(Cq.ret (.inr b))
def Z8(c:(Ŀ Zg)):Cq Zg:=
 Cq.bind (yK 1) λa=>Cq.next (Zje c (0,a)) λd=>match d with|b=>Zjf b
def ZjX:Cq Int:=
 Cq.ret 0
def ZjW(b:(Ŀ Int))(c:(Ŀ Int)):Int->Cq (Int⊕Unit):=
 Cq.loop λd=>match d with|a=>if 0<=a then(Cq.Θ b a λe=>Cq.Θ c a λf=>if ¬e=f then(Cq.Θ b a λg=>Cq.Θ c a λh=>if g<h then(Cq.ret (.inr (.inl (-1))))else(Cq.ret (.inr (.inl 1))))else(Cq.ret (.inl (i64.wrap (a-1)))))else(Cq.ret (.inr (.inr ())))
def Ad(a:(Ŀ Int))(b:(Ŀ Int)):Cq Int:=
 if ¬(a.length:Int)=(b.length:Int)then(if(a.length:Int)<(b.length:Int)then(Cq.ret (-1))else(Cq.ret 1))else(Cq.next (ZjW a b (i64.wrap ((a.length:Int)-1))) λd=>match d with|.inl c=>Cq.ret c|.inr ()=>ZjX)
def Ro(b:Zg)(c:Zg):Cq Int:=
 Cq.bind (u7 b) λa=>Cq.bind (u7 c) λd=>if ¬a=d then Cq.fail else(if a<0 then(Cq.bind (Ad c.υ b.υ) λe=>Cq.ret e)else(Cq.bind (Ad b.υ c.υ) λf=>Cq.ret f))
def u9(c:Zf)(d:Zf):Cq Int:=
 Cq.bind (ZH c) λa=>Cq.bind (ZH d) λb=>if ¬a=b then(if a<b then(Cq.ret (-1))else(Cq.ret 1))else(Cq.bind (Z8 [c.num,d.den]) λe=>Cq.bind (Z8 [d.num,c.den]) λf=>Cq.bind (Ro e f) λg=>Cq.ret g)
def D0(a:Za)(b:Za):Cq Int:=
 if ¬a.m=b.m then(Cq.bind (yB a.m b.m) λd=>Cq.ret d)else(Cq.bind (u9 a.c b.c) λe=>Cq.ret e)
def Zz(a:(Ŀ Za))(b:(Ŀ Za)):Cq Int:=
 if(a.length:Int)<(b.length:Int)then(Cq.ret (-1))else(Cq.ret 0)
def ZI(b:(Ŀ Za))(c:(Ŀ Za)):Int->Cq (Int⊕Unit):=
 Cq.loop λe=>match e with|a=>if a<(b.length:Int)then(Cq.Θ b a λf=>if(c.length:Int)<=a then(Cq.ret (.inr (.inl 1)))else(Cq.Θ c a λg=>Cq.bind (D0 f g) λd=>if ¬d=0 then(Cq.ret (.inr (.inl d)))else(Cq.ret (.inl (i64.wrap (a+1))))))else(Cq.ret (.inr (.inr ())))
def ZB(a:(Ŀ Za))(b:(Ŀ Za)):Cq Int:=
 Cq.next (ZI a b 0) λd=>match d with|.inl c=>Cq.ret c|.inr ()=>Zz a b
def D9(b:(Ŀ Za))(c:(Ŀ Za)):Cq Int:=
 Cq.bind (ZB b c) λa=>Cq.ret a
def O1(l:Ŀ (Ŀ Za))(a b c:Int):Cq (Ŀ (Ŀ Za)):=
 Cq.ë (a=0/\b=(l.length:Int)/\(0<=c/\c<1000000)/\l.length<=1000000/\l.all Ñ=true) (Cq.ret (jx l))
def DZ(a:Za)(b:Za):Cq Bool:=
 if a.m=b.m then(Cq.bind (u9 a.c b.c) λd=>Cq.ret (decide (d=0)))else(Cq.ret false)
def Z4:Cq Bool:=
 Cq.ret true
def ZJ(b:(Ŀ Za))(c:(Ŀ Za)):Int->Cq (Bool⊕Unit):=
 Cq.loop λe=>match e with|a=>if a<(b.length:Int)then(Cq.Θ b a λf=>Cq.Θ c a λg=>Cq.bind (DZ f g) λd=>if(!d)=true then(Cq.ret (.inr (.inl false)))else(Cq.ret (.inl (i64.wrap (a+1)))))else(Cq.ret (.inr (.inr ())))
def ZC(a:(Ŀ Za))(b:(Ŀ Za)):Cq Bool:=
 if ¬(a.length:Int)=(b.length:Int)then(Cq.ret false)else(Cq.next (ZJ a b 0) λd=>match d with|.inl c=>Cq.ret c|.inr ()=>Z4)
def ZU(b:(Ŀ Za))(c:(Ŀ Za)):Cq Bool:=
 Cq.bind (ZC b c) λa=>Cq.ret a
def Zj7(a:Int)(b:Int):Cq Int:=
 Cq.ë (0<=(u8.wrap a:Int)/\(u8.wrap a)<(QO.size:Int)) (Cq.ret (i64.wrap (b+(i64.wrap (eO QO (u8.wrap a))))))
def Zj8(a:Int)(b:Int):Cq Int:=
 if 256<=a then Cq.fail else(Zj7 a b)
def Zj9(a:Int)(b:Int):Cq Int:=
 if 65536<=a then Cq.fail else(Zj8 a b)
def Ph(a:Int):Cq Int:=
 if 4294967296<=a then Cq.fail else(Zj9 a 0)
def tO(b:Int):Cq Int:=
 Cq.bind (Ph b) λa=>Cq.ret a
def ZQ(a:(Ŀ (Ŀ Za))):Cq ((Ŀ (Ŀ Za))):=
 Cq.bind (tO (u64.wrap (a.length:Int))) λb=>Cq.bind (O1 a 0 (a.length:Int) b) λc=>Cq.ret c
def Ab(a:(Ŀ Int)):Cq (Ŀ Int):=
 Cq.ë (([]++a).length<=small) (Cq.ret ([]++a))
def Zl9(a:Int):Cq Int:=
 Cq.ret a
def Zl8(b:(Ŀ Int)):(Int×Int)->Cq Int:=
 Cq.loop λd=>match d with|(c,a)=>if a<(b.length:Int)then(Cq.Θ b a λe=>Cq.ë (0<=(i64.wrap (32*a))) (Cq.ret (.inl (u64.wrap (BitVec.ofInt u64.bits c ||| BitVec.ofInt u64.bits (u64.wrap ((u64.wrap e)*2 ^ (min (i64.wrap (32*a)).toNat u64.bits)))).toNat,i64.wrap (a+1)))))else(Cq.ret (.inr c))
def JR(a:(Ŀ Int)):Cq Int:=
 Cq.next (Zl8 a (0,0)) λb=>match b with|c=>Zl9 c
def Zhb(c:(Ŀ Int))(a:Int):Cq ((Ŀ Int)×Int):=
 Cq.bind (ZY c) λb=>Cq.ret (b,a)
def Zha(f:(Ŀ Int))(c:Int):((Ŀ Int)×Int×Int)->Cq (((Ŀ Int)×Int)):=
 Cq.loop λg=>match g with|(d,a,b)=>if 0<=b then(Cq.Θ f b λe=>Cq.ë (c≠0) (Cq.Θ d b λh=>Cq.ë (c≠0) (Cq.ret (.inl ((d.set b.toNat (u32.wrap (u64.wrap (Int.tdiv (u64.wrap (BitVec.ofInt u64.bits (u64.wrap (a*2 ^ (min (32:Int).toNat u64.bits))) ||| BitVec.ofInt u64.bits (u64.wrap e)).toNat) c)))),Int.tmod (u64.wrap (BitVec.ofInt u64.bits (u64.wrap (a*2 ^ (min (32:Int).toNat u64.bits))) ||| BitVec.ofInt u64.bits (u64.wrap e)).toNat) c,i64.wrap (b-1))))))else(Cq.ret (.inr (d,a)))
def O7(a:(Ŀ Int))(c:Int):Cq ((Ŀ Int)×Int):=
 Cq.ë (0<=(a.length:Int)/\(a.length:Int)<=1000000) (Cq.next (Zha a c ((List.replicate (a.length:Int).toNat 0),0,i64.wrap ((a.length:Int)-1))) λd=>match d with|(e,b)=>Zhb e b)
def Jz(d:(Ŀ Int))(e:(Ŀ Int)):Cq ((Ŀ Int)×(Ŀ Int)):=
 Cq.bind (ZY d) λa=>Cq.bind (ZY e) λb=>Cq.bind (Ad a b) λf=>if f<0 then(Cq.bind (Ab a) λg=>Cq.ret ([],g))else(if(b.length:Int)=1 then(Cq.Θ b 0 λi=>Cq.bind (O7 a (u64.wrap i)) λc=>Cq.bind (Ac c.2) λh=>Cq.ret (c.1,h))else Cq.fail)
def Zoa(b:(Ŀ Int)):Cq Zg:=
 Cq.bind (ZS false b) λa=>Cq.ret a
def Zob(c:Int):Cq (((Ŀ Int)×(Ŀ Int)×Zg)⊕(Zg⊕((Ŀ Int)×Zg))):=
 Cq.bind (Ac c) λb=>Cq.bind (ZS false b) λa=>Cq.ret (.inr (.inl a))
def Zn9:(Int×Int)->Cq Int:=
 Cq.loop λc=>match c with|(b,a)=>if 0<a then(Cq.ë (a≠0) (Cq.ret (.inl (a,Int.tmod b a))))else(Cq.ret (.inr b))
def Jy(d:(Ŀ Int))(a:(Ŀ Int))(e:Zg)(b:Bool):Cq (((Ŀ Int)×(Ŀ Int)×Zg)⊕(Zg⊕((Ŀ Int)×Zg))):=
 if b=true then(Cq.bind (JR d) λf=>Cq.bind (JR a) λg=>Cq.next (Zn9 (f,g)) λh=>match h with|i=>Zob i)else(Cq.bind (Jz d a) λc=>Cq.ret (.inl (a,c.2,e)))
def Zn8:((Ŀ Int)×(Ŀ Int)×Zg)->Cq (Zg⊕((Ŀ Int)×Zg)):=
 Cq.loop λd=>match d with|(c,a,b)=>if 0<(a.length:Int)then(if(c.length:Int)<=2 then(Jy c a b (decide ((a.length:Int)<=2)))else(Jy c a b false))else(Cq.ret (.inr (.inr (c,b))))
def wZ(f:Zg)(g:Zg):Cq Zg:=
 Cq.bind (ZY f.υ) λa=>Cq.bind (Ab a) λb=>Cq.bind (ZY g.υ) λc=>Cq.bind (Ab c) λd=>Cq.next (Zn8 (b,d,(Zg.mk false []))) λh=>match h with|.inl e=>Cq.ret e|.inr (i,j)=>Zoa i
def JQ(a:Zg):Cq Bool:=
 if(a.υ.length:Int)=0 then(Cq.ret (!a.neg))else(Cq.Θ a.υ (i64.wrap ((a.υ.length:Int)-1)) λb=>Cq.ret (decide (¬b=0)))
def Zk0(a:Zf):Cq Bool:=
 Cq.bind (wN a.den) λb=>match b with|false=>(Cq.bind (wZ a.num a.den) λc=>Cq.bind (wN c) λd=>Cq.ret d)|true=>(Cq.ret true)
def ZZ(a:Zf):Cq Bool:=
 Cq.bind (JQ a.num) λb=>match b with|false=>(Cq.ret false)|true=>(Cq.bind (JQ a.den) λc=>match c with|false=>(Cq.ret false)|true=>(Cq.bind (u7 a.den) λd=>if d<=0 then Cq.fail else(Zk0 a)))
def ZkZ:Cq Bool:=
 Cq.ret true
def ZkY(b:(Fin 8->Int)):Int->Cq (Bool⊕Unit):=
 Cq.loop λc=>match c with|a=>if a<8 then(Cq.ë (0<=a/\a<8) (if(Ε b a)<0 then(Cq.ret (.inr (.inl false)))else(if 65535<(Ε b a)then Cq.fail else(Cq.ret (.inl (i64.wrap (a+1)))))))else(Cq.ret (.inr (.inr ())))
def D7(b:(Fin 8->Int)):Cq Bool:=
 Cq.next (ZkY b 0) λc=>match c with|.inl a=>Cq.ret a|.inr ()=>ZkZ
def Zjd:Cq Bool:=
 Cq.ret true
def I3(c:(Ŀ Za))(a:Int)(d:Za):Cq (Int⊕(Bool⊕Unit)):=
 if 0<a then(Cq.Θ c (i64.wrap (a-1)) λe=>Cq.bind (yB e.m d.m) λb=>if b<=0 then Cq.fail else(Cq.ret (.inl (i64.wrap (a+1)))))else(Cq.ret (.inl (i64.wrap (a+1))))
def Zjc(d:(Ŀ Za)):Int->Cq (Bool⊕Unit):=
 Cq.loop λh=>match h with|a=>if a<(d.length:Int)then(Cq.Θ d a λb=>Cq.bind (ZZ b.c) λe=>match e with|false=>(Cq.ret (.inr (.inl false)))|true=>(Cq.bind (ZH b.c) λf=>if f=0 then(Cq.ret (.inr (.inl false)))else(Cq.bind (D7 b.m) λg=>if(!g)=true then(Cq.ret (.inr (.inl false)))else(I3 d a b))))else(Cq.ret (.inr (.inr ())))
def z7(b:(Ŀ Za)):Cq Bool:=
 Cq.next (Zjc b 0) λc=>match c with|.inl a=>Cq.ret a|.inr ()=>Zjd
def Zi9(a:Int):Cq Int:=
 Cq.ret a
def Zi8(c:(Fin 8->Int)):(Int×Int)->Cq Int:=
 Cq.loop λd=>match d with|(b,a)=>if a<8 then(Cq.ë (0<=a/\a<8) (if 0<(Ε c a)then(Cq.ë (0<=a) (Cq.ret (.inl (u8.wrap (BitVec.ofInt u8.bits b ||| BitVec.ofInt u8.bits (u8.wrap (1*2 ^ (min (a).toNat u8.bits)))).toNat,i64.wrap (a+1)))))else(Cq.ret (.inl (b,i64.wrap (a+1))))))else(Cq.ret (.inr b))
def Jl(a:(Fin 8->Int)):Cq Int:=
 Cq.next (Zi8 a (0,0)) λb=>match b with|c=>Zi9 c
def Zkm(a:Int):Cq Int:=
 Cq.ret a
def Zkl(b:(Ŀ Za)):(Int×Int)->Cq Int:=
 Cq.loop λe=>match e with|(c,a)=>if a<(b.length:Int)then(Cq.Θ b a λf=>Cq.bind (Jl f.m) λd=>Cq.ret (.inl (u8.wrap (BitVec.ofInt u8.bits c ||| BitVec.ofInt u8.bits d).toNat,i64.wrap (a+1))))else(Cq.ret (.inr c))
def Ae(a:(Ŀ Za)):Cq Int:=
 Cq.next (Zkl a (0,0)) λb=>match b with|c=>Zkm c
def Zkc(a:Int):Cq Int:=
 Cq.ret a
def Zkb(c:(Fin 8->Int)):(Int×Int)->Cq Int:=
 Cq.loop λd=>match d with|(b,a)=>if a<8 then(Cq.ë (0<=a/\a<8) (Cq.ret (.inl (i64.wrap (b+(Ε c a)),i64.wrap (a+1)))))else(Cq.ret (.inr b))
def Jg(a:(Fin 8->Int)):Cq Int:=
 Cq.next (Zkb a (0,0)) λb=>match b with|c=>Zkc c
def Ziv(a:Int):Cq Int:=
 Cq.ret a
def Ziu(d:(Ŀ Za)):(Int×Int)->Cq Int:=
 Cq.loop λe=>match e with|(c,a)=>if a<(d.length:Int)then(Cq.Θ d a λf=>Cq.bind (Jg f.m) λb=>Cq.ret (.inl (if c<b then b else c,i64.wrap (a+1))))else(Cq.ret (.inr c))
def wP(a:(Ŀ Za)):Cq Int:=
 Cq.next (Ziu a ((-1),0)) λb=>match b with|c=>Ziv c
def è(a:ZD)(b:(Ŀ Za))(f:Int):Cq Bool:=
 Cq.bind (z7 b) λc=>match c with|false=>(Cq.ret false)|true=>(Cq.bind (Ae b) λd=>Cq.ë (0<=a.k.n) (if(Int.fdiv (i64.wrap d) (2 ^ (min (a.k.n).toNat i64.bits)))=0 then(Cq.bind (wP b) λe=>Cq.ret (decide (e<=f)))else(Cq.ret false)))
def ZkX(d:Zg)(e:Zg)(f:(Ŀ Int))(a:(Ŀ Int)):Cq (Zg×Zg×Int):=
 Cq.bind (ZS (decide (¬d.neg=e.neg)) f) λb=>Cq.bind (ZS false a) λc=>Cq.ret (b,c,0)
def Pd(c:Zg)(d:Zg)(b:(Ŀ Int)×(Ŀ Int))(a:Bool):Cq (Zg×Zg×Int):=
 if a=true then Cq.fail else(ZkX c d b.1 b.2)
def Ah(b:Zg)(c:Zg):Cq (Zg×Zg×Int):=
 Cq.bind (ZY c.υ) λd=>if(d.length:Int)=0 then Cq.fail else(Cq.bind (Jz b.υ c.υ) λa=>if b.neg=true then(Pd b c a (decide (0<(a.2.length:Int))))else(Pd b c a false))
def Af(c:Zg)(a:Zg):Cq Zf:=
 Cq.bind (wN a) λd=>if d=true then(Cq.ret (Zf.mk c a))else(Cq.bind (wZ c a) λb=>Cq.bind (wN b) λe=>if e=true then(Cq.ret (Zf.mk c a))else(Cq.bind (Ah c b) λf=>Cq.bind (Ah a b) λg=>Cq.ret (Zf.mk f.1 g.1)))
def Ej(e:Zg)(a:Zg):Cq (Zf×Int):=
 Cq.bind (u7 a) λb=>if b=0 then Cq.fail else(Cq.bind (u7 a) λc=>if c<0 then Cq.fail else(Cq.bind (Af e a) λd=>Cq.ret (d,0)))
def Znd(a:(Fin 8->Int)):Cq ((Fin 8->Int)×Int):=
 Cq.bind (D7 a) λb=>if(!b)=true then Cq.fail else(Cq.ret (a,0))
def Znc(c:(Fin 8->Int)):(Int×(Fin 8->Int))->Cq (Fin 8->Int):=
 Cq.loop λd=>match d with|(a,b)=>if a<8 then(Cq.ë (0<=a/\a<8) (Cq.ë (0<=a/\a<8) (Cq.ë (0<=a/\a<8) (Cq.ret (.inl (i64.wrap (a+1),ζ b a.toNat (i64.wrap ((Ε b a)+(Ε c a)))))))))else(Cq.ret (.inr b))
def Kb(b:(Fin 8->Int))(c:(Fin 8->Int)):Cq ((Fin 8->Int)×Int):=
 Cq.next (Znc c (0,b)) λd=>match d with|a=>Znd a
def Z7(c:Zf)(d:Zf):Cq Zf:=
 Cq.bind (Af c.num d.den) λa=>Cq.bind (Af d.num c.den) λb=>Cq.bind (Z8 [a.num,b.num]) λe=>Cq.bind (Z8 [a.den,b.den]) λf=>Cq.ret (Zf.mk e f)
def Zjb(a:(Ŀ Za)):Cq ((Ŀ Za)×Int):=
 Cq.ret (a,0)
def Zja(h:Zf)(i:(Fin 8->Int))(f:(Ŀ Za)):((Ŀ Za)×Int)->Cq (((Ŀ Za)×Int)⊕(Ŀ Za)):=
 Cq.loop λj=>match j with|(b,a)=>if a<(f.length:Int)then(Cq.Θ f a λg=>Cq.bind (Kb i g.m) λd=>if ¬d.2=0 then Cq.fail else(Cq.bind (Z7 h g.c) λe=>Cq.ë ((b++[(Za.mk e d.1)]).length<=small) (Cq.ret (.inl ((b++[(Za.mk e d.1)]),i64.wrap (a+1))))))else(Cq.ret (.inr (.inr b)))
def Jm(b:Zf)(f:(Fin 8->Int))(a:(Ŀ Za)):Cq ((Ŀ Za)×Int):=
 Cq.bind (ZH b) λc=>if c=0 then Cq.fail else(Cq.ë (0<=(a.length:Int)/\(a.length:Int)<=1000000) (Cq.next (Zja b f a (([]:Ŀ Za),0)) λg=>match g with|.inl d=>Cq.ret d|.inr e=>Zjb e))
def yv(a:Zg):Cq Zg:=
 Cq.bind (Ab a.υ) λb=>Cq.bind (ZS (!a.neg) b) λc=>Cq.ret c
def PI(a:(Ŀ Za))(b:Zg)(c:Zg):Cq (Ŀ Za):=
 Cq.bind (Ej c b) λd=>Cq.bind (Jm d.1 (λ_=>0) a) λe=>Cq.ret e.1
def JC(a:(Ŀ Za))(b:Zg)(d:Zg):Cq (Ŀ Za):=
 Cq.Θ a 0 λg=>Cq.bind (ZH g.c) λe=>if e<0 then(Cq.bind (yv d) λf=>PI a b f)else(PI a b d)
def PH(b:(Ŀ Za)):(Int×Zg×Zg)->Cq (Zg×Zg):=
 Cq.loop λk=>match k with|(a,e,d)=>if a<(b.length:Int)then(Cq.Θ b a λf=>Cq.bind (wZ e f.c.num) λh=>Cq.bind (wZ d f.c.den) λi=>Cq.bind (Ah f.c.den i) λj=>Cq.bind (EE d j.1) λg=>Cq.ret (.inl (i64.wrap (a+1),h,g)))else(Cq.ret (.inr (e,d)))
def Al(a:(Ŀ Za)):Cq (Ŀ Za):=
 if(a.length:Int)=0 then Cq.fail else(Cq.bind (yK 0) λb=>Cq.bind (yK 1) λc=>Cq.next (PH a (0,b,c)) λf=>match f with|(d,e)=>JC a d e)
def fZ:Cq Bool:=
 Cq.ret true
def fY(e:ZD)(d:(Ŀ (Ŀ Za)))(b:Int):Int->Cq (Bool⊕Unit):=
 Cq.loop λk=>match k with|a=>if a<(d.length:Int)then(Cq.Θ d a λc=>Cq.bind (è e c 12) λf=>match f with|false=>(Cq.ret (.inr (.inl false)))|true=>(Cq.bind (wP c) λg=>if g<b then(Cq.ret (.inr (.inl false)))else(Cq.bind (Al c) λh=>Cq.bind (ZU h c) λi=>if(!i)=true then(Cq.ret (.inr (.inl false)))else(if 0<a then(Cq.Θ d (i64.wrap (a-1)) λl=>Cq.bind (D9 l c) λj=>if 0<=j then(Cq.ret (.inr (.inl false)))else(Cq.ret (.inl (i64.wrap (a+1)))))else(Cq.ret (.inl (i64.wrap (a+1))))))))else(Cq.ret (.inr (.inr ())))
def À(b:ZD)(c:(Ŀ (Ŀ Za)))(a:Int):Cq Bool:=
 if 12<(c.length:Int)then(Cq.ret false)else(Cq.next (fY b c a 0) λe=>match e with|.inl d=>Cq.ret d|.inr ()=>fZ)
def Ã(a:ZD):Cq Bool:=
 if 1<=a.k.n then(if a.k.n<=4 then(Cq.bind (À a a.k.eqs 0) λb=>match b with|false=>(Cq.ret false)|true=>(Cq.bind (À a a.k.ε 1) λc=>Cq.ret c))else(Cq.ret false))else(Cq.ret false)
def vb(b:Zb):Cq Bool:=
 Cq.bind (Ã (ZD.mk b)) λa=>Cq.ret a
def ve(k:Zb):Cq Ĳ:=Cq.bind (vb k) λv=>match v with|true=>Cq.ë (0<=k.n/\(gU k).length<=1000000) (Cq.ret (bytesOf (gU k)))|false=>Cq.ret ByteArray.empty
def ZK(a:(Ŀ Za)):Cq (Ŀ Za):=
 Cq.bind (tO (u64.wrap (a.length:Int))) λb=>Cq.bind (Z0 a 0 (a.length:Int) b) λc=>Cq.ret c
def Zix(a:(Ŀ Za)):Cq (Ŀ Za):=
 Cq.bind (ZK a) λb=>Cq.ret b
def Ziw:((Ŀ Za)×Ŀ ((Fin 8->Int)×Zf))->Cq (Ŀ Za):=
 Cq.loop λd=>match d with|(a,f)=>Cq.pick f (Cq.ret (.inr a)) λb e=>Cq.bind (ZH b.2) λc=>if ¬c=0 then(Cq.ë ((a++[(Za.mk b.2 b.1)]).length<=small) (Cq.ret (.inl ((a++[(Za.mk b.2 b.1)]),e))))else(Cq.ret (.inl (a,e)))
def I9(a:(Ŀ ((Fin 8->Int)×Zf))):Cq (Ŀ Za):=
 Cq.ë (0<=(a.length:Int)/\(a.length:Int)<=1000000) (Cq.next (Ziw (([]:Ŀ Za),a)) λc=>match c with|b=>Zix b)
def ZhC(a:(Ŀ ((Fin 8->Int)×Zf))):Cq ((Ŀ Za)×Int):=
 Cq.bind (I9 a) λb=>Cq.ret (b,0)
def ZhD(b:Int)(d:(Ŀ ((Fin 8->Int)×Zf)))(e:Za)(a:(Fin 8->Int)):Cq ((Int×(Ŀ ((Fin 8->Int)×Zf)))⊕(((Ŀ ((Fin 8->Int)×Zf))))):=
 Cq.ë ((∀i,(Lit.int i64 (a i)).wf=true)/\(eS d a e.c).length<=small) (Cq.ret (.inl (i64.wrap (b+1),(eS d a e.c))))
def Pa(b:(Fin 8->Int))(d:Za):(Int×(Fin 8->Int))->Cq (Fin 8->Int):=
 Cq.loop λe=>match e with|(a,c)=>if a<8 then(Cq.ë (0<=a/\a<8) (Cq.ë (0<=a/\a<8) (Cq.ë (0<=Ε b a/\(Ε b a)<8) (Cq.ret (.inl (i64.wrap (a+1),ζ c ((Ε b a).toNat) (Ε d.m a)))))))else(Cq.ret (.inr c))
def ZhA(d:(Ŀ Za))(b:(Fin 8->Int)):(Int×(Ŀ ((Fin 8->Int)×Zf)))->Cq (((Ŀ ((Fin 8->Int)×Zf)))):=
 Cq.loop λg=>match g with|(a,c)=>if a<(d.length:Int)then(Cq.Θ d a λe=>Cq.next (Pa b e (0,(λ_=>0))) λh=>match h with|f=>ZhD a c e f)else(Cq.ret (.inr c))
def Pb(c:(Ŀ Za))(a:(Fin 8->Int)):Cq ((Ŀ Za)×Int):=
 Cq.next (ZhA c a (0,[])) λd=>match d with|b=>ZhC b
def ZhB(b:(Fin 8->Int)):(Int×(Fin 8->Bool))->Cq (((Ŀ Za)×Int)⊕Unit):=
 Cq.loop λd=>match d with|(a,c)=>if a<8 then(Cq.ë (0<=a/\a<8) (if(Ε b a)<0 then(Cq.ret (.inr (.inl ([],1))))else(if 8<=(Ε b a)then(Cq.ret (.inr (.inl ([],1))))else(Cq.ë (0<=Ε b a/\(Ε b a)<8) (if(Ε c (Ε b a))=true then Cq.fail else(Cq.ë (0<=Ε b a/\(Ε b a)<8) (Cq.ret (.inl (i64.wrap (a+1),ζ c ((Ε b a).toNat) true)))))))))else(Cq.ret (.inr (.inr ())))
def DY(c:(Ŀ Za))(a:(Fin 8->Int)):Cq ((Ŀ Za)×Int):=
 Cq.next (ZhB a (0,(λ_=>false))) λd=>match d with|.inl b=>Cq.ret b|.inr ()=>Pb c a
def Zky(a:(Ŀ (Ŀ Za))):Cq ((Ŀ (Ŀ Za))):=
 Cq.ret a
def Zkx(d:(Ŀ (Ŀ Za)))(c:(Fin 8->Int)):((Ŀ (Ŀ Za))×Int)->Cq (((Ŀ (Ŀ Za)))):=
 Cq.loop λf=>match f with|(b,a)=>if a<(d.length:Int)then(Cq.Θ d a λg=>Cq.bind (DY g c) λe=>Cq.Θ b a λh=>Cq.ret (.inl ((b.set a.toNat e.1),i64.wrap (a+1))))else(Cq.ret (.inr b))
def Ag(a:(Ŀ (Ŀ Za)))(b:(Fin 8->Int)):Cq ((Ŀ (Ŀ Za))):=
 Cq.ë (0<=(a.length:Int)/\(a.length:Int)<=1000000) (Cq.next (Zkx a b ((List.replicate (a.length:Int).toNat []),0)) λd=>match d with|c=>Zky c)
def ZcN(a:(Ŀ (Ŀ Za))):Cq ((Ŀ (Ŀ Za))):=
 Cq.ret a
def ZcL(b:(Ŀ (Ŀ (Ŀ Za)))):((Ŀ (Ŀ Za))×Int)->Cq (((Ŀ (Ŀ Za)))):=
 Cq.loop λe=>match e with|(a,c)=>if c<(b.length:Int)then(Cq.Θ b c λd=>Cq.ë ((a++d).length<=small) (Cq.ret (.inl ((a++d),i64.wrap (c+1)))))else(Cq.ret (.inr a))
def ZcO(b:(Ŀ (Ŀ (Ŀ Za))))(c:Int):Cq ((Ŀ (Ŀ Za))):=
 Cq.bind (OZ c) λd=>Cq.next (ZcL b (d,0)) λe=>match e with|a=>ZcN a
def ZcM(a:(Ŀ (Ŀ (Ŀ Za)))):(Int×Int)->Cq Int:=
 Cq.loop λe=>match e with|(b,c)=>if c<(a.length:Int)then(Cq.Θ a c λd=>if(i64.wrap (b+(d.length:Int)))<0 then Cq.fail else(Cq.ret (.inl (i64.wrap (b+(d.length:Int)),i64.wrap (c+1)))))else(Cq.ret (.inr b))
def I1(a:(Ŀ (Ŀ (Ŀ Za)))):Cq ((Ŀ (Ŀ Za))):=
 Cq.next (ZcM a (0,0)) λc=>match c with|b=>ZcO a b
def Px(b:Zg):Cq Zf:=
 Cq.bind (yK 1) λa=>Cq.ret (Zf.mk b a)
def wM(c:Int):Cq Zf:=
 Cq.bind (yK c) λa=>Cq.bind (Px a) λb=>Cq.ret b
def DR(a:Zf):Cq (Ŀ Za):=
 Cq.bind (ZH a) λb=>if b=0 then Cq.fail else(Cq.ret [(Za.mk a (λ_=>0))])
def Ks(a:(Ŀ Za))(b:Int):Cq Bool:=
 Cq.bind (z7 a) λc=>match c with|false=>(Cq.ret false)|true=>(Cq.bind (Ae a) λd=>Cq.ë (0<=b) (if(Int.fdiv (i64.wrap d) (2 ^ (min (b).toNat i64.bits)))=0 then(Cq.bind (wP a) λe=>Cq.ret (decide (e<=12)))else(Cq.ret false)))
def Pp(e:Int)(a:(Ŀ (Ŀ Za)))(b:(Ŀ (Ŀ Za))):Cq (Zb×Int):=
 Cq.bind (D3 a) λc=>Cq.bind (D3 b) λd=>if 12<(c.length:Int)then(Cq.ret ((Zb.mk 0 [] []),2))else(if 12<(d.length:Int)then(Cq.ret ((Zb.mk 0 [] []),2))else(Cq.ret ((Zb.mk e c d),0)))
def Zmt(d:(Ŀ (Ŀ Za))):((Ŀ (Ŀ Za))×(Ŀ (Ŀ Za))×Int)->Cq (((Ŀ (Ŀ Za))×(Ŀ (Ŀ Za)))):=
 Cq.loop λj=>match j with|(a,b,c)=>if c<(d.length:Int)then(Cq.Θ d c λg=>if(g.length:Int)=0 then(Cq.bind (wM 1) λh=>Cq.bind (DR h) λe=>Cq.ë ((a++[e]).length<=small) (Cq.ret (.inl ((a++[e]),b,i64.wrap (c+1)))))else(Cq.bind (wP g) λi=>if 0<i then(Cq.bind (Al g) λf=>Cq.ë ((b++[f]).length<=small) (Cq.ret (.inl (a,(b++[f]),i64.wrap (c+1)))))else(Cq.ret (.inl (a,b,i64.wrap (c+1))))))else(Cq.ret (.inr (a,b)))
def Pq(d:Int)(e:(Ŀ (Ŀ Za)))(a:(Ŀ (Ŀ Za))):Cq (Zb×Int):=
 Cq.next (Zmt e (a,[],0)) λf=>match f with|(b,c)=>Pp d b c
def Zmu(c:(Ŀ (Ŀ Za))):((Ŀ (Ŀ Za))×Int)->Cq (((Ŀ (Ŀ Za)))):=
 Cq.loop λf=>match f with|(a,b)=>if b<(c.length:Int)then(Cq.Θ c b λe=>if 0<(e.length:Int)then(Cq.bind (Al e) λd=>Cq.ë ((a++[d]).length<=small) (Cq.ret (.inl ((a++[d]),i64.wrap (b+1)))))else(Cq.ret (.inl (a,i64.wrap (b+1)))))else(Cq.ret (.inr a))
def Pr(b:Int)(c:(Ŀ (Ŀ Za)))(d:(Ŀ (Ŀ Za))):Cq (Zb×Int):=
 Cq.next (Zmu c ([],0)) λe=>match e with|a=>Pq b d a
def Po(d:Int)(b:(Ŀ (Ŀ Za))):(Int×Zb)->Cq ((Zb×Int)⊕Zb):=
 Cq.loop λf=>match f with|(a,c)=>if a<(b.length:Int)then(Cq.Θ b a λg=>Cq.bind (Ks g d) λe=>if(!e)=true then(Cq.ret (.inr (.inl ((Zb.mk 0 [] []),1))))else(Cq.ret (.inl (i64.wrap (a+1),c))))else(Cq.ret (.inr (.inr c)))
def Ps(a:Int)(b:(Ŀ (Ŀ Za)))(c:(Ŀ (Ŀ Za)))(d:Zb):Cq (Zb×Int):=
 Cq.bind (I1 [b,c]) λe=>Cq.next (Po a e (0,d)) λg=>match g with|.inl f=>Cq.ret f|.inr h=>Pr a b c
def D2(a:Int)(b:(Ŀ (Ŀ Za)))(c:(Ŀ (Ŀ Za))):Cq (Zb×Int):=
 if a<1 then(Cq.ret ((Zb.mk 0 [] []),1))else(if 4<a then(Cq.ret ((Zb.mk 0 [] []),1))else(Ps a b c (Zb.mk 0 [] [])))
def r0(k:Zb)(p:(Fin 8->Int))(s:Zb×(Fin 8->Int)×Ĳ):Cq (Zb×(Fin 8->Int)×Ĳ):=Cq.bind (Ag k.eqs p) λa=>Cq.bind (Ag k.ε p) λb=>Cq.bind (D2 k.n a b) λr=>if ¬r.2=0 then Cq.ret s else Cq.bind (ve r.1) λt=>if s.2.2=ByteArray.empty then Cq.ret (r.1,p,t)else if Op.bytesLess t.toList s.2.2.toList=true then Cq.ret (r.1,p,t)else Cq.ret s
def nc(k:Zb):Ŀ (Fin 8->Int)->(Zb×(Fin 8->Int)×Ĳ)->Cq (Zb×(Fin 8->Int)×Ĳ)
 |[],s=>Cq.ret s
 |p::l,s=>Cq.bind (r0 k p s) λs'=>nc k l s'
def El(k:Zb):Cq (Zb×(Fin 8->Int)):=Cq.ë (1<=k.n/\k.n<=4) (Cq.bind (nc k (Β k.n.toNat) (⟨0,[],[]⟩,(λ_=>0),ByteArray.empty)) λs=>Cq.ret (s.1,s.2.1))
def AP(q:Zc):Cq Ĳ:=Cq.ë ((oI q).length<=1000000) (Cq.ret (bytesOf (oI q)))
def cmp_isNaN_int(a:Int):Cq Bool:=
 Cq.ret (decide (¬a=a))
def DV(b:Int)(a:Int):Cq Int:=
 Cq.bind (cmp_isNaN_int b) λc=>Cq.bind (cmp_isNaN_int a) λd=>if c=true then Cq.fail else(if d=true then Cq.fail else(if b<a then(Cq.ret (-1))else(if a<b then(Cq.ret 1)else(Cq.ret 0))))
def ZpM:Cq Int:=
 Cq.ret 0
def ZpL(b:(Ŀ Int)):Int->Cq (Int⊕Unit):=
 Cq.loop λd=>match d with|a=>if a<(b.length:Int)then(Cq.Θ b a λc=>if ¬c=0 then(Cq.ret (.inr (.inl c)))else(Cq.ret (.inl (i64.wrap (a+1)))))else(Cq.ret (.inr (.inr ())))
def Ki(a:(Ŀ Int)):Cq Int:=
 Cq.next (ZpL a 0) λc=>match c with|.inl b=>Cq.ret b|.inr ()=>ZpM
def JV(a:Ze)(b:Ze):Cq Int:=
 Cq.bind (DV a.χ b.χ) λc=>Cq.bind (DV a.id b.id) λd=>Cq.bind (Ki [c,d]) λe=>Cq.ret e
def O3(l:Ŀ Ze)(a b c:Int):Cq (Ŀ Ze):=
 Cq.ë (a=0/\b=(l.length:Int)/\(0<=c/\c<1000000)/\l.length<=1000000) (Cq.any (λd=>d.Perm l/\d.Pairwise (λx y=>¬lk y x<0)) Cq.ret)
def Jh(b:Zc)(a:Bool):Cq (Ŀ Zc):=
 if a=true then(Cq.ret [(Zc.mk 5 [] [])])else(if b.kind=7 then(Cq.ret [(Zc.mk 6 [] [])])else(Cq.ret []))
def Jb(a:Zc)(b:Bool):Cq (Ŀ Zc):=
 if b=true then(Cq.ret [(Zc.mk 4 [] [])])else(if a.kind=6 then(Jh a (decide (a.kind=6)))else(Jh a (decide (a.kind=10))))
def yC(a:Zc):Cq (Ŀ Zc):=
 if a.kind=5 then(Jb a (decide (a.kind=5)))else(Jb a (decide (a.kind=8)))
def tA(c:Zb)(d:Zc):Cq Ĳ:=
 Cq.bind (ve c) λa=>Cq.bind (AP d) λb=>Cq.ë ((a.size:Int)+b.size<=1000000) (Cq.ret (a++b))
abbrev nK:=(Int×Int)×Ŀ (Ĳ×Int)×Zd
def oU(f:Zc->Ŀ (Ĳ×Int)->Zd->Cq nK)(T:Ŀ (Ĳ×Int)->Zd->Cq nK):Ŀ Zc->Ŀ (Ĳ×Int)->Zd->Cq nK
 |[],D,B=>T D B
 |x::l,D,B=>Cq.bind (f x D B) λo=>Cq.ë (o.1.2=0) (oU f T l o.2.1 o.2.2)
def tb(k:Zb)(q:Zc)(D:Ŀ (Ĳ×Int))(B:Zd):Cq nK:=
 Cq.bind (tA k q) λs=>Cq.ë (s.size<=1000000) (match fb D s with
  |some a=>Cq.ret ((a,0),D,B)
  |none=>Cq.ë (((B.t.length:Int)<100/\B.next<1000000)/\(eS D s B.next).length<=small) (Cq.ret ((B.next,0),eS D s B.next,⟨B.t++[Ze.mk B.next k q 0 0 (-1) false],i64.wrap (B.next+1)⟩)))
def vc:Nat->Zb->Zc->Ŀ (Ĳ×Int)->Zd->Cq nK
 |0,_,_,_,_=>Cq.fail
 |n+1,k,q,D,B=>Cq.bind (yC q) λl=>oU (vc n k) (tb k q) l D B
def EY(a:(Ŀ Int))(b:Int):Cq (Ŀ Int):=
 Cq.ë ((a++[u8.wrap b]).length<=small) (Cq.ret (a++[u8.wrap b]))
def EX:((Ŀ Int)×Int)->Cq (((Ŀ Int)×Int)):=
 Cq.loop λc=>match c with|(b,a)=>if 127<a then(Cq.ë ((b++[u8.wrap ((u8.wrap (Int.tmod a 128))+128)]).length<=small) (Cq.ret (.inl ((b++[u8.wrap ((u8.wrap (Int.tmod a 128))+128)]),u64.wrap (Int.tdiv a 128)))))else(Cq.ret (.inr (b,a)))
def ua(a:(Ŀ Int))(b:Int):Cq (Ŀ Int):=
 Cq.next (EX (a,b)) λc=>match c with|(d,e)=>EY d e
def Ay(b:(Ŀ Int))(a:Int):Cq (Ŀ Int):=
 if a<0 then(Cq.bind (ua b (u64.wrap ((u64.wrap ((u64.wrap (i64.wrap (0-(i64.wrap (a+1)))))*2))+1))) λc=>Cq.ret c)else(Cq.bind (ua b (u64.wrap ((u64.wrap a)*2))) λd=>Cq.ret d)
def ZqJ(a:(Ŀ Int)):Cq (Ŀ Int):=
 Cq.ret a
def ZqI(d:Zg):((Ŀ Int)×Int)->Cq (Ŀ Int):=
 Cq.loop λe=>match e with|(b,c)=>if c<(d.υ.length:Int)then(Cq.Θ d.υ c λa=>Cq.ë ((b++[u8.wrap (Int.fdiv a (2 ^ (min (24:Int).toNat u32.bits))),u8.wrap (Int.fdiv a (2 ^ (min (16:Int).toNat u32.bits))),u8.wrap (Int.fdiv a (2 ^ (min (8:Int).toNat u32.bits))),u8.wrap a]).length<=small) (Cq.ret (.inl ((b++[u8.wrap (Int.fdiv a (2 ^ (min (24:Int).toNat u32.bits))),u8.wrap (Int.fdiv a (2 ^ (min (16:Int).toNat u32.bits))),u8.wrap (Int.fdiv a (2 ^ (min (8:Int).toNat u32.bits))),u8.wrap a]),i64.wrap (c+1)))))else(Cq.ret (.inr b))
def Et(c:(Ŀ Int))(a:Zg)(d:Int):Cq (Ŀ Int):=
 Cq.bind (ua c (u64.wrap ((u64.wrap ((u64.wrap (a.υ.length:Int))*2))+d))) λb=>Cq.next (ZqI a (b,0)) λe=>match e with|f=>ZqJ f
def AM(b:(Ŀ Int))(a:Zg):Cq (Ŀ Int):=
 if a.neg=true then(Et b a 1)else(Et b a 0)
def Qq(d:(Ŀ Int))(a:Zf):Cq (Ŀ Int):=
 Cq.bind (AM d a.num) λb=>Cq.bind (AM b a.den) λc=>Cq.ret c
def Zth(a:(Ŀ Int)):Cq (Ŀ Int):=
 Cq.ret a
def Zti(a:Int)(b:(Ŀ Int)):Cq (((Ŀ Int)×Int)⊕(Ŀ Int)):=
 Cq.ret (.inl (b,i64.wrap (a+1)))
def Ztg(d:(Ŀ Za))(e:Int):((Ŀ Int)×Int)->Cq (Ŀ Int):=
 Cq.loop λf=>match f with|(b,a)=>if a<8 then(Cq.Θ d e λg=>Cq.ë (0<=a/\a<8) (Cq.bind (ua b (u64.wrap (Ε g.m a))) λc=>Cq.ret (.inl (c,i64.wrap (a+1)))))else(Cq.ret (.inr b))
def Ztf(b:(Ŀ Za)):((Ŀ Int)×Int)->Cq (Ŀ Int):=
 Cq.loop λf=>match f with|(d,a)=>if a<(b.length:Int)then(Cq.Θ b a λg=>Cq.bind (Qq d g.c) λe=>Cq.next (Ztg b a (e,0)) λh=>match h with|i=>Zti a i)else(Cq.ret (.inr d))
def FG(c:(Ŀ Int))(a:(Ŀ Za)):Cq (Ŀ Int):=
 Cq.bind (ua c (u64.wrap (a.length:Int))) λb=>Cq.next (Ztf a (b,0)) λd=>match d with|e=>Zth e
def ZqF(a:(Ŀ Int)):Cq (Ŀ Int):=
 Cq.ret a
def ZqE(b:(Ŀ (Ŀ Za))):((Ŀ Int)×Int)->Cq (Ŀ Int):=
 Cq.loop λe=>match e with|(c,a)=>if a<(b.length:Int)then(Cq.Θ b a λf=>Cq.bind (FG c f) λd=>Cq.ret (.inl (d,i64.wrap (a+1))))else(Cq.ret (.inr c))
def Ft(c:(Ŀ Int))(a:(Ŀ (Ŀ Za))):Cq (Ŀ Int):=
 Cq.bind (ua c (u64.wrap (a.length:Int))) λb=>Cq.next (ZqE a (b,0)) λd=>match d with|e=>ZqF e
def vk(e:(Ŀ Int))(a:Zb):Cq (Ŀ Int):=
 Cq.bind (Ay e a.n) λb=>Cq.bind (Ft b a.eqs) λc=>Cq.bind (Ft c a.ε) λd=>Cq.ret d
def Ap(c d:Zb):Cq Bool:=Cq.bind (vk [] c) λa=>Cq.bind (vk [] d) λb=>Cq.ret (decide (bytesOf a=bytesOf b))
def ZqV(a:(Ŀ (Fin 8->Int))):Cq ((Ŀ (Fin 8->Int))):=
 Cq.ret a
def ZqW(b:Int)(a:(Ŀ (Fin 8->Int))):Cq (((Ŀ (Fin 8->Int))×Int)⊕(((Ŀ (Fin 8->Int))))):=
 Cq.ret (.inl (a,i64.wrap (b+1)))
def ZqX(b:Int)(a:(Ŀ (Fin 8->Int))):Cq (((Ŀ (Fin 8->Int))×Int)⊕(((Ŀ (Fin 8->Int))))):=
 Cq.ret (.inl (a,i64.wrap (b+1)))
def ZqY(a:(Ŀ (Fin 8->Int)))(c:Int)(b:(Fin 8->Int)):Cq (((Ŀ (Fin 8->Int))×Int)⊕(((Ŀ (Fin 8->Int))))):=
 Cq.ë ((a++[b]).length<=small) (Cq.ret (.inl ((a++[b]),i64.wrap (c+1))))
def ZqU(c:(Ŀ (Fin 8->Int)))(d:Int)(e:Int):(Int×(Fin 8->Int))->Cq (Fin 8->Int):=
 Cq.loop λf=>match f with|(a,b)=>if d<a then(Cq.Θ c e λg=>Cq.ë (0<=i64.wrap (a-1)/\(i64.wrap (a-1))<8) (Cq.ë (0<=a/\a<8) (Cq.ret (.inl (i64.wrap (a-1),ζ b a.toNat (Ε g (i64.wrap (a-1))))))))else(Cq.ret (.inr b))
def ZqT(g:Int)(a:(Ŀ (Fin 8->Int)))(d:Int)(e:Int):((Ŀ (Fin 8->Int))×Int)->Cq (((Ŀ (Fin 8->Int)))):=
 Cq.loop λh=>match h with|(b,c)=>if c<g then(Cq.Θ a e λi=>Cq.Θ a e λj=>Cq.ë (0<=c/\c<8) (Cq.ë (0<=d/\d<8) (Cq.next (ZqU a d e (c,ζ i d.toNat (Ε j c))) λk=>match k with|f=>ZqY b c f)))else(Cq.ret (.inr b))
def ZqS(f:Int)(b:(Ŀ (Fin 8->Int)))(e:Int):((Ŀ (Fin 8->Int))×Int)->Cq (((Ŀ (Fin 8->Int)))):=
 Cq.loop λg=>match g with|(a,d)=>if d<(b.length:Int)then(Cq.next (ZqT f b e d (a,e)) λh=>match h with|c=>ZqX d c)else(Cq.ret (.inr a))
def ZqR(d:Int):((Ŀ (Fin 8->Int))×Int)->Cq (((Ŀ (Fin 8->Int)))):=
 Cq.loop λe=>match e with|(a,c)=>if c<d then(Cq.next (ZqS d a c ([],0)) λf=>match f with|b=>ZqW c b)else(Cq.ret (.inr a))
def La(b:Int):Cq ((Ŀ (Fin 8->Int))):=
 Cq.next (ZqR b ([ζ (ζ (ζ (ζ (ζ (ζ (ζ (ζ (λ_=>0) 0 0) 1 1) 2 2) 3 3) 4 4) 5 5) 6 6) 7 7],0)) λc=>match c with|a=>ZqV a
def ZsS(b:(Ŀ Int))(a:Int):Cq (Ŀ Int):=
 Cq.ë (0<=(0:Int)/\(0:Int)<=a/\a<=(b.length:Int)) (Cq.ret ((b.take a.toNat).drop (0:Int).toNat))
def ZsR(b:(Ŀ Int)):Int->Cq Int:=
 Cq.loop λc=>match c with|a=>if 0<a then(Cq.Θ b (i64.wrap (a-1)) λd=>if d=0 then(Cq.ret (.inl (i64.wrap (a-1))))else(Cq.ret (.inr a)))else(Cq.ret (.inr a))
def xf(a:(Ŀ Int)):Cq (Ŀ Int):=
 Cq.next (ZsR a (a.length:Int)) λb=>match b with|c=>ZsS a c
def AJ(a:Int):Cq (Ŀ Int):=
 Cq.bind (xf [u32.wrap (Int.tmod a 4294967296),u32.wrap (u64.wrap (Int.tdiv a 4294967296))]) λb=>Cq.ret b
def rM(b:Bool)(c:(Ŀ Int)):Cq Zg:=
 Cq.bind (xf c) λa=>if b=true then(Cq.ret (Zg.mk (decide (0<(a.length:Int))) a))else(Cq.ret (Zg.mk false a))
def ud(a:Int):Cq Zg:=
 if a<0 then(Cq.bind (AJ (u64.wrap ((u64.wrap (i64.wrap (0-(i64.wrap (a+1)))))+1))) λb=>Cq.bind (rM true b) λc=>Cq.ret c)else(Cq.bind (AJ (u64.wrap a)) λd=>Cq.bind (rM false d) λe=>Cq.ret e)
def A2(a:Zg):Cq Int:=
 if a.neg=true then(Cq.ret (-1))else(Cq.ret (if 1<(a.υ.length:Int)then 1 else(a.υ.length:Int)))
def yR(a:(Ŀ Int))(b:Int):Cq Int:=
 if b<(a.length:Int)then(Cq.Θ a b λc=>Cq.ret (u64.wrap c))else(Cq.ret 0)
def Kk(a:(Ŀ Int)):Cq Int:=
 Cq.bind (yR a 1) λb=>Cq.bind (yR a 0) λc=>Cq.ret (u64.wrap ((u64.wrap (b*4294967296))+c))
def Zps(a:Int):Cq Int:=
 Cq.ret a
def Zpr:(Int×Int)->Cq Int:=
 Cq.loop λc=>match c with|(b,a)=>if 0<a then(Cq.ë (a≠0) (Cq.ret (.inl (a,Int.tmod b a))))else(Cq.ret (.inr b))
def Rx(a:Int)(b:Int):Cq Int:=
 Cq.next (Zpr (a,b)) λc=>match c with|d=>Zps d
def ZmA:Cq Int:=
 Cq.ret 0
def Zmz(b:(Ŀ Int))(c:(Ŀ Int)):Int->Cq (Int⊕Unit):=
 Cq.loop λd=>match d with|a=>if 0<=a then(Cq.Θ b a λe=>Cq.Θ c a λf=>if e<f then(Cq.ret (.inr (.inl (-1))))else(Cq.Θ b a λg=>Cq.Θ c a λh=>if h<g then(Cq.ret (.inr (.inl 1)))else(Cq.ret (.inl (i64.wrap (a-1))))))else(Cq.ret (.inr (.inr ())))
def Z5(a:(Ŀ Int))(b:(Ŀ Int)):Cq Int:=
 if(a.length:Int)<(b.length:Int)then(Cq.ret (-1))else(if(b.length:Int)<(a.length:Int)then(Cq.ret 1)else(Cq.next (Zmz a b (i64.wrap ((a.length:Int)-1))) λd=>match d with|.inl c=>Cq.ret c|.inr ()=>ZmA))
def ZnH(a:(Ŀ Int))(b:Int):Cq ((Ŀ Int)×Int):=
 Cq.bind (xf a) λc=>Cq.ret (c,b)
def ZnG(f:(Ŀ Int))(d:Int):((Ŀ Int)×Int×Int)->Cq (((Ŀ Int)×Int)):=
 Cq.loop λg=>match g with|(a,b,c)=>if 0<=c then(Cq.Θ f c λe=>Cq.ë (d≠0) (Cq.Θ a c λh=>Cq.ë (d≠0) (Cq.ret (.inl ((a.set c.toNat (u32.wrap (u64.wrap (Int.tdiv (u64.wrap ((u64.wrap (b*4294967296))+(u64.wrap e))) d)))),Int.tmod (u64.wrap ((u64.wrap (b*4294967296))+(u64.wrap e))) d,i64.wrap (c-1))))))else(Cq.ret (.inr (a,b)))
def Qy(a:(Ŀ Int))(d:Int):Cq ((Ŀ Int)×Int):=
 Cq.ë (0<=(a.length:Int)/\(a.length:Int)<=1000000) (Cq.next (ZnG a d ((List.replicate (a.length:Int).toNat 0),0,i64.wrap ((a.length:Int)-1))) λe=>match e with|(b,c)=>ZnH b c)
def Zqn(a:(Ŀ Int)):Cq (Ŀ Int):=
 Cq.bind (xf a) λb=>Cq.ret b
def Zqo(b:(Ŀ Int))(a:Int)(c:(Ŀ Int))(d:Int):Cq (((Ŀ Int)×Int)⊕(Ŀ Int)):=
 Cq.Θ c (i64.wrap (a+(b.length:Int))) λe=>Cq.ret (.inl ((c.set (i64.wrap (a+(b.length:Int))).toNat (u32.wrap d)),i64.wrap (a+1)))
def Zqm(f:(Ŀ Int))(e:(Ŀ Int))(b:Int):((Ŀ Int)×Int×Int)->Cq (((Ŀ Int)×Int)):=
 Cq.loop λj=>match j with|(c,d,a)=>if a<(e.length:Int)then(Cq.Θ f b λg=>Cq.Θ e a λh=>Cq.Θ c (i64.wrap (b+a)) λi=>Cq.Θ c (i64.wrap (b+a)) λk=>Cq.ret (.inl ((c.set (i64.wrap (b+a)).toNat (u32.wrap (Int.tmod (u64.wrap ((u64.wrap ((u64.wrap ((u64.wrap g)*(u64.wrap h)))+(u64.wrap i)))+d)) 4294967296))),u64.wrap (Int.tdiv (u64.wrap ((u64.wrap ((u64.wrap ((u64.wrap g)*(u64.wrap h)))+(u64.wrap i)))+d)) 4294967296),i64.wrap (a+1))))else(Cq.ret (.inr (c,d)))
def Zql(b:(Ŀ Int))(c:(Ŀ Int)):((Ŀ Int)×Int)->Cq (Ŀ Int):=
 Cq.loop λg=>match g with|(d,a)=>if a<(b.length:Int)then(Cq.next (Zqm b c a (d,0,0)) λh=>match h with|(e,f)=>Zqo c a e f)else(Cq.ret (.inr d))
def SU(a:(Ŀ Int))(b:(Ŀ Int)):Cq (Ŀ Int):=
 Cq.ë (0<=i64.wrap ((a.length:Int)+(b.length:Int))/\(i64.wrap ((a.length:Int)+(b.length:Int)))<=1000000) (Cq.next (Zql a b ((List.replicate (i64.wrap ((a.length:Int)+(b.length:Int))).toNat 0),0)) λd=>match d with|c=>Zqn c)
def Ka(a:(Ŀ Int))(b:(Ŀ Int)):Cq ((Ŀ Int)×(Ŀ Int)):=
 Cq.bind (Z5 a b) λd=>if d<0 then(Cq.ret ([],a))else(if(b.length:Int)=1 then(Cq.Θ b 0 λf=>Cq.bind (Qy a (u64.wrap f)) λc=>Cq.bind (AJ c.2) λe=>Cq.ret (c.1,e))else Cq.fail)
def Zpq(a:(Ŀ Int)):Cq (Ŀ Int):=
 Cq.ret a
def PY(c:(Ŀ Int))(b:(Ŀ Int))(a:Bool):Cq (((Ŀ Int)×(Ŀ Int))⊕((Ŀ Int)⊕(Ŀ Int))):=
 if a=true then(Cq.bind (Kk c) λd=>Cq.bind (Kk b) λe=>Cq.bind (Rx d e) λf=>Cq.bind (AJ f) λg=>Cq.ret (.inr (.inl g)))else(Cq.bind (Ka c b) λh=>Cq.ret (.inl (b,h.2)))
def Zpp:((Ŀ Int)×(Ŀ Int))->Cq ((Ŀ Int)⊕(Ŀ Int)):=
 Cq.loop λc=>match c with|(a,b)=>if 0<(b.length:Int)then(if(a.length:Int)<=2 then(PY a b (decide ((b.length:Int)<=2)))else(PY a b false))else(Cq.ret (.inr (.inr a)))
def RS(b:(Ŀ Int))(c:(Ŀ Int)):Cq (Ŀ Int):=
 Cq.next (Zpp (b,c)) λd=>match d with|.inl a=>Cq.ret a|.inr e=>Zpq e
def xw(c:Zg)(d:Zg):Cq Zg:=
 Cq.bind (RS c.υ d.υ) λa=>Cq.bind (rM false a) λb=>Cq.ret b
def Zpo(d:Zg)(e:Zg)(f:(Ŀ Int))(a:(Ŀ Int)):Cq (Zg×Zg×Int):=
 Cq.bind (rM (decide (¬d.neg=e.neg)) f) λb=>Cq.bind (rM false a) λc=>Cq.ret (b,c,0)
def PX(c:Zg)(d:Zg)(b:(Ŀ Int)×(Ŀ Int))(a:Bool):Cq (Zg×Zg×Int):=
 if a=true then Cq.fail else(Zpo c d b.1 b.2)
def yG(b:Zg)(c:Zg):Cq (Zg×Zg×Int):=
 if(c.υ.length:Int)=0 then Cq.fail else(Cq.bind (Ka b.υ c.υ) λa=>if b.neg=true then(PX b c a (decide (0<(a.2.length:Int))))else(PX b c a false))
def K5(b:Zg)(c:Zg):Cq Zg:=
 Cq.bind (yG b c) λa=>Cq.ret a.1
def L9(a:Zg):Cq Zg:=
 Cq.bind (rM (!a.neg) a.υ) λb=>Cq.ret b
def PZ(d:Zg)(e:Zg)(a:Zg):Cq Zf:=
 Cq.bind (K5 d a) λb=>Cq.bind (K5 e a) λc=>Cq.ret (Zf.mk b c)
def Av(c:Zg)(a:Zg):Cq Zf:=
 Cq.bind (xw c a) λb=>Cq.bind (A2 a) λd=>if d<0 then(Cq.bind (L9 b) λe=>PZ c a e)else(PZ c a b)
def FZ(d:Zg)(a:Zg):Cq (Zf×Int):=
 Cq.bind (A2 a) λb=>if b=0 then Cq.fail else(Cq.bind (Av d a) λc=>Cq.ret (c,0))
def oB(b:Zf):Cq Int:=
 Cq.bind (A2 b.num) λa=>Cq.ret a
def Zqr:Cq Bool:=
 Cq.ret true
def Zqq(b:(Fin 8->Int)):Int->Cq (Bool⊕Unit):=
 Cq.loop λc=>match c with|a=>if a<8 then(Cq.ë (0<=a/\a<8) (if(Ε b a)<0 then(Cq.ret (.inr (.inl false)))else(Cq.ë (0<=a/\a<8) (if 65535<(Ε b a)then Cq.fail else(Cq.ret (.inl (i64.wrap (a+1))))))))else(Cq.ret (.inr (.inr ())))
def Fq(b:(Fin 8->Int)):Cq Bool:=
 Cq.next (Zqq b 0) λc=>match c with|.inl a=>Cq.ret a|.inr ()=>Zqr
def Zu0(a:(Fin 8->Int)):Cq ((Fin 8->Int)×Int):=
 Cq.bind (Fq a) λb=>if(!b)=true then Cq.fail else(Cq.ret (a,0))
def ZuZ(c:(Fin 8->Int)):(Int×(Fin 8->Int))->Cq (Fin 8->Int):=
 Cq.loop λd=>match d with|(a,b)=>if a<8 then(Cq.ë (0<=a/\a<8) (Cq.ë (0<=a/\a<8) (Cq.ë (0<=a/\a<8) (Cq.ret (.inl (i64.wrap (a+1),ζ b a.toNat (i64.wrap ((Ε b a)+(Ε c a)))))))))else(Cq.ret (.inr b))
def Mb(b:(Fin 8->Int))(c:(Fin 8->Int)):Cq ((Fin 8->Int)×Int):=
 Cq.next (ZuZ c (0,b)) λd=>match d with|a=>Zu0 a
def qY(a:Zg)(b:Zg):Cq Zg:=
 Cq.bind (SU a.υ b.υ) λc=>Cq.bind (rM (decide (¬a.neg=b.neg)) c) λd=>Cq.ret d
def qZ(a:Zf)(b:Zf):Cq Zf:=
 Cq.bind (qY a.num b.num) λc=>Cq.bind (qY a.den b.den) λd=>Cq.bind (Av c d) λe=>Cq.ret e
def Zqx(a:(Ŀ Za)):Cq ((Ŀ Za)×Int):=
 Cq.ret (a,0)
def Zqw(g:Zf)(h:(Fin 8->Int))(f:(Ŀ Za)):((Ŀ Za)×Int)->Cq (((Ŀ Za)×Int)⊕(Ŀ Za)):=
 Cq.loop λi=>match i with|(a,d)=>if d<(f.length:Int)then(Cq.Θ f d λj=>Cq.bind (Mb h j.m) λb=>if ¬b.2=0 then Cq.fail else(Cq.Θ f d λk=>Cq.bind (qZ g k.c) λe=>Cq.ë ((a++[(Za.mk e b.1)]).length<=small) (Cq.ret (.inl ((a++[(Za.mk e b.1)]),i64.wrap (d+1))))))else(Cq.ret (.inr (.inr a)))
def Fs(b:Zf)(e:(Fin 8->Int))(f:(Ŀ Za)):Cq ((Ŀ Za)×Int):=
 Cq.bind (oB b) λc=>if c=0 then(Cq.ret ([],0))else(Cq.next (Zqw b e f ([],0)) λg=>match g with|.inl d=>Cq.ret d|.inr a=>Zqx a)
def FY(a:Zf):Cq Zf:=
 Cq.bind (L9 a.num) λb=>Cq.ret (Zf.mk b a.den)
def Jo(a:(Ŀ Za))(b:Zf):Cq (Ŀ Za):=
 Cq.bind (Fs b (λ_=>0) a) λc=>Cq.ret c.1
def Jp(a:(Ŀ Za))(d:Zg)(e:Zg):Cq (Ŀ Za):=
 Cq.bind (FZ d e) λb=>Cq.Θ a 0 λh=>Cq.bind (oB h.c) λf=>if f<0 then(Cq.bind (FY b.1) λg=>Jo a g)else(Jo a b.1)
def Zpx(b:(Ŀ Za))(g:Zg):(Int×Zg)->Cq Zg:=
 Cq.loop λi=>match i with|(a,d)=>if a<(b.length:Int)then(Cq.Θ b a λj=>Cq.bind (yG g j.c.den) λh=>Cq.Θ b a λk=>Cq.bind (qY k.c.num h.1) λe=>Cq.bind (xw d e) λf=>Cq.ret (.inl (i64.wrap (a+1),f)))else(Cq.ret (.inr d))
def P1(a:(Ŀ Za))(c:Zg)(b:Zg):Cq (Ŀ Za):=
 Cq.next (Zpx a b (0,c)) λe=>match e with|d=>Jp a b d
def Zpy(b:(Ŀ Za)):(Int×Zg)->Cq Zg:=
 Cq.loop λh=>match h with|(a,d)=>if a<(b.length:Int)then(Cq.Θ b a λi=>Cq.Θ b a λj=>Cq.bind (xw d j.c.den) λe=>Cq.bind (yG i.c.den e) λf=>Cq.bind (qY d f.1) λg=>Cq.ret (.inl (i64.wrap (a+1),g)))else(Cq.ret (.inr d))
def EW(a:(Ŀ Za)):Cq (Ŀ Za):=
 if(a.length:Int)=0 then(Cq.ret [])else(Cq.bind (ud 1) λb=>Cq.bind (ud 0) λc=>Cq.next (Zpy a (0,b)) λe=>match e with|d=>P1 a c d)
def Zpu(a:Int):Cq Int:=
 Cq.ret a
def Zpt(c:(Fin 8->Int)):(Int×Int)->Cq Int:=
 Cq.loop λd=>match d with|(b,a)=>if a<8 then(Cq.ë (0<=a/\a<8) (Cq.ret (.inl (i64.wrap (b+(Ε c a)),i64.wrap (a+1)))))else(Cq.ret (.inr b))
def Kl(a:(Fin 8->Int)):Cq Int:=
 Cq.next (Zpt a (0,0)) λb=>match b with|c=>Zpu c
def Zpw(a:Int):Cq Int:=
 Cq.ret a
def Zpv(d:(Ŀ Za)):(Int×Int)->Cq Int:=
 Cq.loop λe=>match e with|(b,c)=>if c<(d.length:Int)then(Cq.Θ d c λf=>Cq.bind (Kl f.m) λa=>Cq.ret (.inl (if b<a then a else b,i64.wrap (c+1))))else(Cq.ret (.inr b))
def wU(a:(Ŀ Za)):Cq Int:=
 Cq.next (Zpv a ((-1),0)) λb=>match b with|c=>Zpw c
def ZsV:Cq Bool:=
 Cq.ret true
def ZsU(b:Zg)(c:Zg):Int->Cq (Bool⊕Unit):=
 Cq.loop λd=>match d with|a=>if a<(b.υ.length:Int)then(Cq.Θ b.υ a λe=>Cq.Θ c.υ a λf=>if ¬e=f then(Cq.ret (.inr (.inl false)))else(Cq.ret (.inl (i64.wrap (a+1)))))else(Cq.ret (.inr (.inr ())))
def Lt(a:Zg)(b:Zg):Cq Bool:=
 if ¬a.neg=b.neg then(Cq.ret false)else(if ¬(a.υ.length:Int)=(b.υ.length:Int)then(Cq.ret false)else(Cq.next (ZsU a b 0) λd=>match d with|.inl c=>Cq.ret c|.inr ()=>ZsV))
def A3(a:Zf)(b:Zf):Cq Bool:=
 Cq.bind (Lt a.num b.num) λc=>match c with|false=>(Cq.ret false)|true=>(Cq.bind (Lt a.den b.den) λd=>Cq.ret d)
def Ep(a:Za)(b:Za):Cq Bool:=
 if a.m=b.m then(Cq.bind (A3 a.c b.c) λd=>Cq.ret d)else(Cq.ret false)
def Ztc:Cq Bool:=
 Cq.ret true
def Q2(b:(Ŀ Za))(d:(Ŀ Za)):Int->Cq (Bool⊕Unit):=
 Cq.loop λe=>match e with|a=>if a<(b.length:Int)then(Cq.Θ b a λf=>Cq.Θ d a λg=>Cq.bind (Ep f g) λc=>if(!c)=true then(Cq.ret (.inr (.inl false)))else(Cq.ret (.inl (i64.wrap (a+1)))))else(Cq.ret (.inr (.inr ())))
def tQ(a:(Ŀ Za))(b:(Ŀ Za)):Cq Bool:=
 if ¬(a.length:Int)=(b.length:Int)then(Cq.ret false)else(Cq.next (Q2 a b 0) λd=>match d with|.inl c=>Cq.ret c|.inr ()=>Ztc)
def ZuY:Cq Int:=
 Cq.ret 0
def ZuX(b:(Fin 8->Int))(c:(Fin 8->Int)):Int->Cq (Int⊕Unit):=
 Cq.loop λd=>match d with|a=>if a<8 then(Cq.ë (0<=a/\a<8) (Cq.ë (0<=a/\a<8) (if(Ε b a)<(Ε c a)then(Cq.ret (.inr (.inl (-1))))else(Cq.ë (0<=a/\a<8) (Cq.ë (0<=a/\a<8) (if(Ε c a)<(Ε b a)then(Cq.ret (.inr (.inl 1)))else(Cq.ret (.inl (i64.wrap (a+1))))))))))else(Cq.ret (.inr (.inr ())))
def xx(b:(Fin 8->Int))(c:(Fin 8->Int)):Cq Int:=
 Cq.next (ZuX b c 0) λd=>match d with|.inl a=>Cq.ret a|.inr ()=>ZuY
def L8(a:Zg)(b:Zg):Cq Int:=
 if a.neg=true then(if(!b.neg)=true then(Cq.ret (-1))else(if a.neg=true then(if a.neg=true then(Cq.bind (Z5 b.υ a.υ) λc=>Cq.ret c)else(Cq.bind (Z5 a.υ b.υ) λd=>Cq.ret d))else(if b.neg=true then(Cq.ret 1)else(if a.neg=true then(Cq.bind (Z5 b.υ a.υ) λe=>Cq.ret e)else(Cq.bind (Z5 a.υ b.υ) λf=>Cq.ret f)))))else(if a.neg=true then(if a.neg=true then(Cq.bind (Z5 b.υ a.υ) λg=>Cq.ret g)else(Cq.bind (Z5 a.υ b.υ) λh=>Cq.ret h))else(if b.neg=true then(Cq.ret 1)else(if a.neg=true then(Cq.bind (Z5 b.υ a.υ) λi=>Cq.ret i)else(Cq.bind (Z5 a.υ b.υ) λj=>Cq.ret j))))
def vt(a:Zf)(b:Zf):Cq Int:=
 Cq.bind (qY a.num b.den) λc=>Cq.bind (qY b.num a.den) λd=>Cq.bind (L8 c d) λe=>Cq.ret e
def Kn(a:(Ŀ Za))(b:(Ŀ Za)):Cq Int:=
 if(a.length:Int)<(b.length:Int)then(Cq.ret (-1))else(if(b.length:Int)<(a.length:Int)then(Cq.ret 1)else(Cq.ret 0))
def Rz(b:(Ŀ Za))(d:(Ŀ Za))(a:Int):Cq (Int⊕(Int⊕Unit)):=
 Cq.Θ b a λi=>Cq.Θ d a λj=>Cq.bind (xx i.m j.m) λe=>if ¬e=0 then(Cq.Θ b a λk=>Cq.Θ d a λl=>Cq.bind (xx k.m l.m) λf=>Cq.ret (.inr (.inl f)))else(Cq.Θ b a λn=>Cq.Θ d a λo=>Cq.bind (vt n.c o.c) λg=>if ¬g=0 then(Cq.Θ b a λp=>Cq.Θ d a λq=>Cq.bind (vt p.c q.c) λh=>Cq.ret (.inr (.inl h)))else(Cq.ret (.inl (i64.wrap (a+1)))))
def Ry(b:(Ŀ Za))(c:(Ŀ Za)):Int->Cq (Int⊕Unit):=
 Cq.loop λd=>match d with|a=>if a<(b.length:Int)then(if a<(c.length:Int)then(Rz b c a)else(Cq.ret (.inr (.inr ()))))else(Cq.ret (.inr (.inr ())))
def F1(a:(Ŀ Za))(b:(Ŀ Za)):Cq Int:=
 Cq.next (Ry a b 0) λd=>match d with|.inl c=>Cq.ret c|.inr ()=>Kn a b
def ZpA(a:(Ŀ (Ŀ Za))):Cq ((Ŀ (Ŀ Za))):=
 Cq.ret a
def tN(a:(Ŀ (Ŀ Za)))(d:Int)(c:(Ŀ Za))(b:Int):Cq (((Ŀ (Ŀ Za))×Int)⊕(((Ŀ (Ŀ Za))))):=
 Cq.ë (0<=b/\b<=(a.length:Int)/\(a.length:Int)<=(a.length:Int)) (Cq.ë (([c]++((a.take (a.length:Int).toNat).drop b.toNat)).length<=small) (Cq.ë (0<=(0:Int)/\(0:Int)<=b/\b<=(a.length:Int)) (Cq.ë ((((a.take b.toNat).drop (0:Int).toNat)++([c]++((a.take (a.length:Int).toNat).drop b.toNat))).length<=small) (Cq.ret (.inl ((((a.take b.toNat).drop (0:Int).toNat)++([c]++((a.take (a.length:Int).toNat).drop b.toNat))),i64.wrap (d+1)))))))
def Jt(e:Bool)(a:(Ŀ (Ŀ Za)))(b:Int)(d:(Ŀ Za))(c:Int):Cq (((Ŀ (Ŀ Za))×Int)⊕(((Ŀ (Ŀ Za))))):=
 if(d.length:Int)=0 then(Cq.ret (.inl (a,i64.wrap (b+1))))else(if e=true then(Cq.bind (wU d) λf=>if f=0 then(Cq.ret (.inl (a,i64.wrap (b+1))))else(if c<(a.length:Int)then(Cq.Θ a c λi=>Cq.bind (tQ i d) λg=>if g=true then(Cq.ret (.inl (a,i64.wrap (b+1))))else(tN a b d c))else(tN a b d c)))else(if c<(a.length:Int)then(Cq.Θ a c λj=>Cq.bind (tQ j d) λh=>if h=true then(Cq.ret (.inl (a,i64.wrap (b+1))))else(tN a b d c))else(tN a b d c)))
def Js(b:(Ŀ (Ŀ Za)))(c:(Ŀ Za)):Int->Cq Int:=
 Cq.loop λe=>match e with|a=>if a<(b.length:Int)then(Cq.Θ b a λf=>Cq.bind (F1 f c) λd=>if d<0 then(Cq.ret (.inl (i64.wrap (a+1))))else(Cq.ret (.inr a)))else(Cq.ret (.inr a))
def Zpz(c:(Ŀ (Ŀ Za)))(e:Bool):((Ŀ (Ŀ Za))×Int)->Cq (((Ŀ (Ŀ Za)))):=
 Cq.loop λg=>match g with|(a,b)=>if b<(c.length:Int)then(Cq.Θ c b λh=>Cq.bind (EW h) λd=>Cq.next (Js a d 0) λi=>match i with|f=>Jt e a b d f)else(Cq.ret (.inr a))
def EZ(a:(Ŀ (Ŀ Za)))(b:Bool):Cq ((Ŀ (Ŀ Za))):=
 Cq.next (Zpz a b ([],0)) λd=>match d with|c=>ZpA c
def ZX(c:Int):Cq Zf:=
 Cq.bind (ud c) λa=>Cq.bind (ud 1) λb=>Cq.ret (Zf.mk a b)
def Eo(a:Zf):Cq (Ŀ Za):=
 Cq.bind (oB a) λb=>if b=0 then(Cq.ret [])else(Cq.ret [(Za.mk a (λ_=>0))])
def K3(a:Zg):Cq Bool:=
 if(a.υ.length:Int)=0 then(Cq.ret (!a.neg))else(Cq.Θ a.υ (i64.wrap ((a.υ.length:Int)-1)) λb=>Cq.ret (decide (¬b=0)))
def Zqp(a:Zf):Cq Bool:=
 Cq.bind (xw a.num a.den) λb=>Cq.bind (ud 1) λc=>Cq.bind (L8 b c) λd=>Cq.ret (decide (d=0))
def tY(a:Zf):Cq Bool:=
 Cq.bind (K3 a.num) λb=>match b with|false=>(Cq.ret false)|true=>(Cq.bind (K3 a.den) λc=>match c with|false=>(Cq.ret false)|true=>(Cq.bind (A2 a.den) λd=>if d<1 then Cq.fail else(Zqp a)))
def Zqz:Cq Bool:=
 Cq.ret true
def JK(b:(Ŀ Za))(a:Int):Cq (Int⊕(Bool⊕Unit)):=
 if 0<a then(Cq.Θ b (i64.wrap (a-1)) λd=>Cq.Θ b a λe=>Cq.bind (xx d.m e.m) λc=>if c<=0 then Cq.fail else(Cq.ret (.inl (i64.wrap (a+1)))))else(Cq.ret (.inl (i64.wrap (a+1))))
def Zqy(a:(Ŀ Za)):Int->Cq (Bool⊕Unit):=
 Cq.loop λg=>match g with|b=>if b<(a.length:Int)then(Cq.Θ a b λh=>Cq.bind (tY h.c) λd=>match d with|false=>(Cq.ret (.inr (.inl false)))|true=>(Cq.Θ a b λi=>Cq.bind (oB i.c) λe=>if e=0 then(Cq.ret (.inr (.inl false)))else(Cq.Θ a b λj=>Cq.bind (Fq j.m) λf=>if(!f)=true then(Cq.ret (.inr (.inl false)))else(JK a b))))else(Cq.ret (.inr (.inr ())))
def AK(b:(Ŀ Za)):Cq Bool:=
 Cq.next (Zqy b 0) λc=>match c with|.inl a=>Cq.ret a|.inr ()=>Zqz
def ZuW(a:Int):Cq Int:=
 Cq.ret (u8.wrap a)
def ZuV(c:Int):(Int×Int)->Cq Int:=
 Cq.loop λd=>match d with|(a,b)=>if b<c then(Cq.ret (.inl (i64.wrap (2*a),i64.wrap (b+1))))else(Cq.ret (.inr a))
def Ma(a:Int):Cq Int:=
 Cq.next (ZuV a (1,0)) λb=>match b with|c=>ZuW c
def ZnM(a:Int):Cq Int:=
 Cq.ret a
def ZnL(d:(Fin 8->Int)):(Int×Int)->Cq Int:=
 Cq.loop λe=>match e with|(b,a)=>if a<8 then(Cq.ë (0<=a/\a<8) (if 0<(Ε d a)then(Cq.bind (Ma a) λc=>Cq.ret (.inl (u8.wrap (b+c),i64.wrap (a+1))))else(Cq.ret (.inl (b,i64.wrap (a+1))))))else(Cq.ret (.inr b))
def JZ(a:(Fin 8->Int)):Cq Int:=
 Cq.next (ZnL a (0,0)) λb=>match b with|c=>ZnM c
def Zte(a:Int):Cq Int:=
 Cq.ret a
def Ztd(c:(Ŀ Za)):(Int×Int)->Cq Int:=
 Cq.loop λe=>match e with|(a,b)=>if b<(c.length:Int)then(Cq.Θ c b λf=>Cq.bind (JZ f.m) λd=>Cq.ret (.inl (u8.wrap (BitVec.ofInt u8.bits a ||| BitVec.ofInt u8.bits d).toNat,i64.wrap (b+1))))else(Cq.ret (.inr a))
def A5(b:(Ŀ Za)):Cq Int:=
 Cq.next (Ztd b (0,0)) λc=>match c with|a=>Zte a
def yH(a:(Ŀ Za))(b:Int):Cq Bool:=
 Cq.bind (AK a) λc=>match c with|false=>(Cq.ret false)|true=>(Cq.bind (wU a) λd=>if d<=12 then(Cq.bind (A5 a) λe=>Cq.ë (0<=(u64.wrap b)) (Cq.ret (decide ((i64.wrap e)<(i64.wrap (1*2 ^ (min (u64.wrap b).toNat i64.bits)))))))else(Cq.ret false))
def Zu5:Cq Bool:=
 Cq.ret true
def RC(b:(Ŀ (Ŀ Za)))(d:Int):Int->Cq (Bool⊕Unit):=
 Cq.loop λe=>match e with|a=>if a<(b.length:Int)then(Cq.Θ b a λf=>Cq.bind (yH f d) λc=>if(!c)=true then(Cq.ret (.inr (.inl false)))else(Cq.ret (.inl (i64.wrap (a+1)))))else(Cq.ret (.inr (.inr ())))
def F5(b:(Ŀ (Ŀ Za)))(c:Int):Cq Bool:=
 Cq.next (RC b c 0) λd=>match d with|.inl a=>Cq.ret a|.inr ()=>Zu5
def P3(c:Int)(d:(Ŀ (Ŀ Za)))(e:(Ŀ (Ŀ Za))):Cq (Zb×Int):=
 Cq.bind (EZ e false) λa=>Cq.bind (EZ d true) λb=>if 12<(a.length:Int)then(Cq.ret ((Zb.mk 0 [] []),2))else(if 12<(b.length:Int)then(Cq.ret ((Zb.mk 0 [] []),2))else(Cq.ret ((Zb.mk c a b),0)))
def ZpD(c:(Ŀ (Ŀ Za))):((Ŀ (Ŀ Za))×Int)->Cq (((Ŀ (Ŀ Za)))):=
 Cq.loop λf=>match f with|(a,b)=>if b<(c.length:Int)then(Cq.Θ c b λg=>if(g.length:Int)=0 then(Cq.bind (ZX 1) λe=>Cq.bind (Eo e) λd=>Cq.ë ((a++[d]).length<=small) (Cq.ret (.inl ((a++[d]),i64.wrap (b+1)))))else(Cq.ret (.inl (a,i64.wrap (b+1)))))else(Cq.ret (.inr a))
def P4(c:Int)(a:(Ŀ (Ŀ Za)))(b:(Ŀ (Ŀ Za))):Cq (Zb×Int):=
 Cq.ë (([]++a).length<=small) (Cq.next (ZpD b (([]++a),0)) λe=>match e with|d=>P3 c b d)
def E1(a:Int)(b:(Ŀ (Ŀ Za)))(c:(Ŀ (Ŀ Za))):Cq (Zb×Int):=
 if a<1 then(Cq.ret ((Zb.mk 0 [] []),1))else(if 4<a then(Cq.ret ((Zb.mk 0 [] []),1))else(Cq.bind (F5 b a) λd=>match d with|false=>(Cq.ret ((Zb.mk 0 [] []),1))|true=>(Cq.bind (F5 c a) λe=>if(!e)=true then(Cq.ret ((Zb.mk 0 [] []),1))else(P4 a b c))))
def ZhU:Cq Bool:=
 Cq.ret true
def ZhT(a:(Fin 8->Int)):(Int×(Fin 8->Bool))->Cq (Bool⊕Unit):=
 Cq.loop λd=>match d with|(b,c)=>if b<8 then(Cq.ë (0<=b/\b<8) (if(Ε a b)<0 then(Cq.ret (.inr (.inl false)))else(Cq.ë (0<=b/\b<8) (if 8<=(Ε a b)then(Cq.ret (.inr (.inl false)))else(Cq.ë (0<=b/\b<8) (Cq.ë (0<=Ε a b/\(Ε a b)<8) (if(Ε c (Ε a b))=true then Cq.fail else(Cq.ë (0<=b/\b<8) (Cq.ë (0<=Ε a b/\(Ε a b)<8) (Cq.ret (.inl (i64.wrap (b+1),ζ c ((Ε a b).toNat) true))))))))))))else(Cq.ret (.inr (.inr ())))
def I7(a:(Fin 8->Int)):Cq Bool:=
 Cq.next (ZhT a (0,(λ_=>false))) λc=>match c with|.inl b=>Cq.ret b|.inr ()=>ZhU
def Zqi(a:(Ŀ Int)):Cq (Ŀ Int):=
 Cq.bind (xf a) λb=>Cq.ret b
def Zqh(f:(Ŀ Int))(g:(Ŀ Int)):((Ŀ Int)×Int×Int)->Cq (Ŀ Int):=
 Cq.loop λh=>match h with|(b,a,c)=>if c<(i64.wrap ((if(f.length:Int)<(g.length:Int)then(g.length:Int)else(f.length:Int))+1))then(Cq.bind (yR f c) λd=>Cq.bind (yR g c) λe=>Cq.Θ b c λi=>Cq.ret (.inl ((b.set c.toNat (u32.wrap (Int.tmod (u64.wrap ((u64.wrap (d+e))+a)) 4294967296))),u64.wrap (Int.tdiv (u64.wrap ((u64.wrap (d+e))+a)) 4294967296),i64.wrap (c+1))))else(Cq.ret (.inr b))
def SS(a:(Ŀ Int))(b:(Ŀ Int)):Cq (Ŀ Int):=
 Cq.ë (0<=i64.wrap ((if(a.length:Int)<(b.length:Int)then(b.length:Int)else(a.length:Int))+1)/\(i64.wrap ((if(a.length:Int)<(b.length:Int)then(b.length:Int)else(a.length:Int))+1))<=1000000) (Cq.next (Zqh a b ((List.replicate (i64.wrap ((if(a.length:Int)<(b.length:Int)then(b.length:Int)else(a.length:Int))+1)).toNat 0),0,0)) λd=>match d with|c=>Zqi c)
def Zqk(a:(Ŀ Int)):Cq (Ŀ Int):=
 Cq.bind (xf a) λb=>Cq.ret b
def Zqj(e:(Ŀ Int))(g:(Ŀ Int)):((Ŀ Int)×Int×Int)->Cq (Ŀ Int):=
 Cq.loop λh=>match h with|(b,a,c)=>if c<(e.length:Int)then(Cq.Θ e c λf=>Cq.bind (yR g c) λd=>Cq.Θ b c λi=>Cq.ret (.inl ((b.set c.toNat (u32.wrap (Int.tmod (u64.wrap ((u64.wrap ((u64.wrap (4294967296+(u64.wrap f)))-d))-a)) 4294967296))),u64.wrap (1-(u64.wrap (Int.tdiv (u64.wrap ((u64.wrap ((u64.wrap (4294967296+(u64.wrap f)))-d))-a)) 4294967296))),i64.wrap (c+1))))else(Cq.ret (.inr b))
def K4(a:(Ŀ Int))(c:(Ŀ Int)):Cq (Ŀ Int):=
 Cq.ë (0<=(a.length:Int)/\(a.length:Int)<=1000000) (Cq.next (Zqj a c ((List.replicate (a.length:Int).toNat 0),0,0)) λd=>match d with|b=>Zqk b)
def Ur(a:Zg)(b:Zg):Cq Zg:=
 if a.neg=b.neg then(Cq.bind (SS a.υ b.υ) λc=>Cq.bind (rM a.neg c) λd=>Cq.ret d)else(Cq.bind (Z5 a.υ b.υ) λe=>if e<0 then(Cq.bind (K4 b.υ a.υ) λf=>Cq.bind (rM b.neg f) λg=>Cq.ret g)else(Cq.bind (K4 a.υ b.υ) λh=>Cq.bind (rM a.neg h) λi=>Cq.ret i))
def vr(a:Zf)(b:Zf):Cq Zf:=
 Cq.bind (qY a.num b.den) λc=>Cq.bind (qY b.num a.den) λd=>Cq.bind (Ur c d) λe=>Cq.bind (qY a.den b.den) λf=>Cq.bind (Av e f) λg=>Cq.ret g
def Zu2(a:(Ŀ Za)):Cq (Ŀ Za):=
 Cq.ret a
def Km(e:(Ŀ Za))(g:(Ŀ Za))(a:Int)(b:(Ŀ Za))(d:Int):Cq (((Ŀ Za)×Int×Int)⊕(Ŀ Za)):=
 Cq.Θ e a λj=>Cq.Θ g d λk=>Cq.bind (vr j.c k.c) λf=>Cq.bind (oB f) λh=>if ¬h=0 then(Cq.Θ e a λi=>Cq.ë ((b++[(Za.mk f i.m)]).length<=small) (Cq.ret (.inl ((b++[(Za.mk f i.m)]),i64.wrap (a+1),i64.wrap (d+1)))))else(Cq.ret (.inl (b,i64.wrap (a+1),i64.wrap (d+1))))
def Aw(f:(Ŀ Za))(c:(Ŀ Za))(a:Int)(b:(Ŀ Za))(d:Int)(e:Bool):Cq (((Ŀ Za)×Int×Int)⊕(Ŀ Za)):=
 if e=true then(Cq.Θ c a λg=>Cq.ë ((b++[g]).length<=small) (Cq.ret (.inl ((b++[g]),d,i64.wrap (a+1)))))else(Km f c d b a)
def Ax(a:(Ŀ Za))(c:(Ŀ Za))(d:Int)(e:(Ŀ Za))(b:Int):Cq (((Ŀ Za)×Int×Int)⊕(Ŀ Za)):=
 if b=(a.length:Int)then(Aw a c d e b true)else(Cq.Θ a b λg=>Cq.Θ c d λh=>Cq.bind (xx g.m h.m) λf=>Aw a c d e b (decide (f<0)))
def vi(c:(Ŀ Za))(f:(Ŀ Za))(a:(Ŀ Za))(b:Int)(d:Int)(e:Bool):Cq (((Ŀ Za)×Int×Int)⊕(Ŀ Za)):=
 if e=true then(Cq.Θ c b λg=>Cq.ë ((a++[g]).length<=small) (Cq.ret (.inl ((a++[g]),i64.wrap (b+1),d))))else(Ax c f d a b)
def wT(a:(Ŀ Za))(b:(Ŀ Za))(e:(Ŀ Za))(c:Int)(d:Int):Cq (((Ŀ Za)×Int×Int)⊕(Ŀ Za)):=
 if d=(b.length:Int)then(vi a b e c d true)else(if c<(a.length:Int)then(Cq.Θ a c λg=>Cq.Θ b d λh=>Cq.bind (xx g.m h.m) λf=>vi a b e c d (decide (0<f)))else(vi a b e c d false))
def Zu1(a:(Ŀ Za))(b:(Ŀ Za)):((Ŀ Za)×Int×Int)->Cq (Ŀ Za):=
 Cq.loop λf=>match f with|(c,d,e)=>if d<(a.length:Int)then(wT a b c d e)else(if e<(b.length:Int)then(wT a b c d e)else(Cq.ret (.inr c)))
def Bg(a:(Ŀ Za))(b:(Ŀ Za)):Cq (Ŀ Za):=
 Cq.next (Zu1 a b ([],0,0)) λd=>match d with|c=>Zu2 c
def ZnV(a:(Ŀ Za)):Cq ((Ŀ Za)×Int):=
 Cq.ret (a,0)
def ZnW(f:(Ŀ Za))(a:(Ŀ Za))(b:Int)(d:(Fin 8->Int)):Cq (((Ŀ Za)×Int)⊕(Ŀ Za)):=
 Cq.Θ f b λg=>Cq.bind (Bg a [(Za.mk g.c d)]) λe=>Cq.ret (.inl (e,i64.wrap (b+1)))
def PD(d:(Ŀ Za))(b:(Fin 8->Int))(e:Int):(Int×(Fin 8->Int))->Cq (Fin 8->Int):=
 Cq.loop λf=>match f with|(a,c)=>if a<8 then(Cq.ë (0<=a/\a<8) (Cq.Θ d e λg=>Cq.ë (0<=a/\a<8) (Cq.ë (0<=Ε b a/\(Ε b a)<8) (Cq.ret (.inl (i64.wrap (a+1),ζ c ((Ε b a).toNat) (Ε g.m a)))))))else(Cq.ret (.inr c))
def ZnU(c:(Ŀ Za))(b:(Fin 8->Int)):((Ŀ Za)×Int)->Cq (Ŀ Za):=
 Cq.loop λf=>match f with|(a,d)=>if d<(c.length:Int)then(Cq.next (PD c b d (0,(λ_=>0))) λg=>match g with|e=>ZnW c a d e)else(Cq.ret (.inr a))
def Aj(d:(Ŀ Za))(a:(Fin 8->Int)):Cq ((Ŀ Za)×Int):=
 Cq.bind (I7 a) λc=>if(!c)=true then Cq.fail else(Cq.next (ZnU d a ([],0)) λe=>match e with|b=>ZnV b)
def Pw(a:Zb)(b:(Ŀ (Ŀ Za)))(c:(Ŀ (Ŀ Za))):Cq Zb:=
 Cq.bind (E1 a.n b c) λd=>Cq.ret d.1
def ZmH(c:Zb)(e:(Fin 8->Int)):((Ŀ (Ŀ Za))×Int)->Cq (((Ŀ (Ŀ Za)))):=
 Cq.loop λf=>match f with|(b,a)=>if a<(c.ε.length:Int)then(Cq.Θ c.ε a λg=>Cq.bind (Aj g e) λd=>Cq.ë ((b++[d.1]).length<=small) (Cq.ret (.inl ((b++[d.1]),i64.wrap (a+1)))))else(Cq.ret (.inr b))
def Pe(a:Zb)(b:(Fin 8->Int))(c:(Ŀ (Ŀ Za))):Cq Zb:=
 Cq.next (ZmH a b ([],0)) λe=>match e with|d=>Pw a c d
def ZmI(c:Zb)(e:(Fin 8->Int)):((Ŀ (Ŀ Za))×Int)->Cq (((Ŀ (Ŀ Za)))):=
 Cq.loop λf=>match f with|(a,b)=>if b<(c.eqs.length:Int)then(Cq.Θ c.eqs b λg=>Cq.bind (Aj g e) λd=>Cq.ë ((a++[d.1]).length<=small) (Cq.ret (.inl ((a++[d.1]),i64.wrap (b+1)))))else(Cq.ret (.inr a))
def Eu(a:Zb)(b:(Fin 8->Int)):Cq Zb:=
 Cq.next (ZmI a b ([],0)) λd=>match d with|c=>Pe a b c
def wV(b:(Ŀ Za))(c:Int)(a:Int):Cq Bool:=
 Cq.bind (AK b) λd=>match d with|false=>(Cq.ret false)|true=>(Cq.bind (A5 b) λe=>Cq.ë (0<=(u64.wrap c)) (if(i64.wrap e)<(i64.wrap (1*2 ^ (min (u64.wrap c).toNat i64.bits)))then(Cq.bind (wU b) λf=>Cq.ret (decide (f<=a)))else(Cq.ret false)))
def ZpC:Cq Bool:=
 Cq.ret true
def ZpB(b:(Ŀ (Ŀ Za)))(g:Int):Int->Cq (Bool⊕Unit):=
 Cq.loop λh=>match h with|a=>if a<(b.length:Int)then(Cq.Θ b a λi=>Cq.bind (wV i g 12) λc=>match c with|false=>(Cq.ret (.inr (.inl false)))|true=>(Cq.Θ b a λj=>if(j.length:Int)=0 then(Cq.ret (.inr (.inl false)))else(Cq.Θ b a λk=>Cq.bind (EW k) λd=>Cq.Θ b a λl=>Cq.bind (tQ d l) λe=>match e with|false=>(Cq.ret (.inr (.inl false)))|true=>(if 0<a then(Cq.Θ b (i64.wrap (a-1)) λm=>Cq.Θ b a λn=>Cq.bind (F1 m n) λf=>if 0<=f then Cq.fail else(Cq.ret (.inl (i64.wrap (a+1)))))else(Cq.ret (.inl (i64.wrap (a+1))))))))else(Cq.ret (.inr (.inr ())))
def E0(a:(Ŀ (Ŀ Za)))(c:Int):Cq Bool:=
 if 12<(a.length:Int)then Cq.fail else(Cq.next (ZpB a c 0) λd=>match d with|.inl b=>Cq.ret b|.inr ()=>ZpC)
def ZqH:Cq Bool:=
 Cq.ret true
def ZqG(b:Zb):Int->Cq (Bool⊕Unit):=
 Cq.loop λd=>match d with|a=>if a<(b.ε.length:Int)then(Cq.Θ b.ε a λe=>Cq.bind (wU e) λc=>if c=0 then Cq.fail else(Cq.ret (.inl (i64.wrap (a+1)))))else(Cq.ret (.inr (.inr ())))
def Qr(b:Zb):Cq Bool:=
 Cq.next (ZqG b 0) λc=>match c with|.inl a=>Cq.ret a|.inr ()=>ZqH
def AL(a:Zb):Cq Bool:=
 if a.n<1 then(Cq.ret false)else(if 4<a.n then(Cq.ret false)else(Cq.bind (E0 a.eqs a.n) λb=>match b with|false=>(Cq.ret false)|true=>(Cq.bind (E0 a.ε a.n) λc=>if(!c)=true then(Cq.ret false)else(Qr a))))
def F4(a:Zb):Cq Ĳ:=
 Cq.bind (AL a) λb=>if(!b)=true then Cq.fail else(Cq.bind (vk [] a) λc=>Cq.ret (bytesOf c))
def ZqQ(a:Zb)(b:(Fin 8->Int)):Cq (Zb×(Fin 8->Int)):=
 Cq.ret (a,b)
def ZqP(h:Zb)(a:(Ŀ (Fin 8->Int))):(Int×Zb×(Fin 8->Int))->Cq ((Zb×(Fin 8->Int))):=
 Cq.loop λi=>match i with|(b,c,d)=>if b<(a.length:Int)then(Cq.Θ a b λj=>Cq.bind (Eu h j) λe=>Cq.bind (F4 e) λf=>Cq.bind (F4 c) λg=>if(Op.bytesLess f.toList g.toList)=true then(Cq.Θ a b λk=>Cq.ret (.inl (i64.wrap (b+1),e,k)))else(Cq.ret (.inl (i64.wrap (b+1),c,d))))else(Cq.ret (.inr (c,d)))
def K9(b:Zb):Cq (Zb×(Fin 8->Int)):=
 Cq.bind (La b.n) λa=>Cq.Θ a 0 λf=>Cq.bind (Eu b f) λc=>Cq.Θ a 0 λg=>Cq.next (ZqP b a (1,c,g)) λh=>match h with|(d,e)=>ZqQ d e
def Zqu:Cq Bool:=
 Cq.ret true
def Zqv(b:Int)(a:Int):Cq (Int⊕(Bool⊕Unit)):=
 if a<0 then Cq.fail else(Cq.ret (.inl (i64.wrap (b+1))))
def Zqt(d:(Ŀ (Fin 8->Int)))(b:Int):(Int×Int)->Cq (Bool⊕Int):=
 Cq.loop λe=>match e with|(a,c)=>if c<(d.length:Int)then(Cq.Θ d c λf=>Cq.ë (0<=b/\b<8) (if(Ε f b)<(-1000)then(Cq.ret (.inr (.inl false)))else(Cq.Θ d c λg=>Cq.ë (0<=b/\b<8) (if 1000<(Ε g b)then Cq.fail else(if a=0 then(Cq.Θ d c λh=>Cq.ë (0<=b/\b<8) (Cq.ret (.inl (Ε h b,i64.wrap (c+1)))))else(Cq.ret (.inl (a,i64.wrap (c+1)))))))))else(Cq.ret (.inr (.inr a)))
def Zqs(d:(Ŀ (Fin 8->Int))):Int->Cq (Bool⊕Unit):=
 Cq.loop λe=>match e with|b=>if b<8 then(Cq.next (Zqt d b (0,0)) λf=>match f with|.inl c=>Cq.ret (.inr (.inl c))|.inr a=>Zqv b a)else(Cq.ret (.inr (.inr ())))
def yL(a:(Ŀ (Fin 8->Int))):Cq Bool:=
 if 24<(a.length:Int)then Cq.fail else(Cq.next (Zqs a 0) λc=>match c with|.inl b=>Cq.ret b|.inr ()=>Zqu)
def Zjn:Cq Bool:=
 Cq.ret true
def Zjm(a:(Fin 8->Int)):(Int×(Fin 8->Bool))->Cq (Bool⊕Unit):=
 Cq.loop λd=>match d with|(b,c)=>if b<8 then(Cq.ë (0<=b/\b<8) (if(Ε a b)<0 then(Cq.ret (.inr (.inl false)))else(Cq.ë (0<=b/\b<8) (if 7<(Ε a b)then(Cq.ret (.inr (.inl false)))else(Cq.ë (0<=b/\b<8) (Cq.ë (0<=Ε a b/\(Ε a b)<8) (if(Ε c (Ε a b))=true then Cq.fail else(Cq.ë (0<=b/\b<8) (Cq.ë (0<=Ε a b/\(Ε a b)<8) (Cq.ret (.inl (i64.wrap (b+1),ζ c ((Ε a b).toNat) true))))))))))))else(Cq.ret (.inr (.inr ())))
def Jd(a:(Fin 8->Int)):Cq Bool:=
 Cq.next (Zjm a (0,(λ_=>false))) λc=>match c with|.inl b=>Cq.ret b|.inr ()=>Zjn
def FX(b:Zf):Cq (Zf×Int):=
 Cq.bind (FZ b.den b.num) λa=>Cq.ret (a.1,a.2)
def F0(c:Zf)(d:Zf):Cq Zf:=
 Cq.bind (FY d) λa=>Cq.bind (vr c a) λb=>Cq.ret b
def ZnT(a:(Ŀ Zf)):Cq (Ŀ Zf):=
 Cq.ret a
def ZnS(c:(Ŀ Zf))(f:Zf):(Int×(Ŀ Zf))->Cq (Ŀ Zf):=
 Cq.loop λg=>match g with|(b,a)=>if b<8 then(Cq.Θ a b λh=>Cq.Θ c b λi=>Cq.bind (qZ f i) λd=>Cq.bind (F0 h d) λe=>Cq.Θ a b λj=>Cq.ret (.inl (i64.wrap (b+1),a.set b.toNat e)))else(Cq.ret (.inr a))
def J1(a:(Ŀ Zf))(b:(Ŀ Zf))(d:Int):Cq (Ŀ Zf):=
 Cq.Θ a d λe=>Cq.next (ZnS b e (0,a)) λf=>match f with|c=>ZnT c
def Zs2(a:(Ŀ (Ŀ Zf))):Cq Int:=
 Cq.ret (a.length:Int)
def Zs3(a:(Ŀ (Ŀ Zf)))(b:(Ŀ Int))(e:Int)(c:Int)(d:(Ŀ Zf)):Cq (((Ŀ (Ŀ Zf))×(Ŀ Int)×Int)⊕(((Ŀ (Ŀ Zf))))):=
 Cq.ë ((a++[d]).length<=small) (Cq.ë ((b++[c]).length<=small) (Cq.ret (.inl ((a++[d]),(b++[c]),i64.wrap (e+1)))))
def QB(c:Zf×Int):(Int×(Ŀ Zf))->Cq (Ŀ Zf):=
 Cq.loop λe=>match e with|(a,b)=>if a<8 then(Cq.Θ b a λf=>Cq.bind (qZ f c.1) λd=>Cq.Θ b a λg=>Cq.ret (.inl (i64.wrap (a+1),b.set a.toNat d)))else(Cq.ret (.inr b))
def Zs4(b:(Ŀ (Ŀ Zf)))(c:(Ŀ Int))(d:Int)(e:(Ŀ Zf))(a:Int):Cq (((Ŀ (Ŀ Zf))×(Ŀ Int)×Int)⊕(((Ŀ (Ŀ Zf))))):=
 if a=8 then(Cq.ret (.inl (b,c,i64.wrap (d+1))))else(Cq.Θ e a λh=>Cq.bind (FX h) λf=>Cq.next (QB f (0,e)) λi=>match i with|g=>Zs3 b c d a g)
def QC(b:(Ŀ Zf)):Int->Cq Int:=
 Cq.loop λd=>match d with|a=>if a<8 then(Cq.Θ b a λe=>Cq.bind (oB e) λc=>if c=0 then(Cq.ret (.inl (i64.wrap (a+1))))else(Cq.ret (.inr a)))else(Cq.ret (.inr a))
def Zs5(b:(Ŀ (Ŀ Zf)))(c:(Ŀ Int))(d:Int)(a:(Ŀ Zf)):Cq (((Ŀ (Ŀ Zf))×(Ŀ Int)×Int)⊕(((Ŀ (Ŀ Zf))))):=
 Cq.next (QC a 0) λf=>match f with|e=>Zs4 b c d a e
def QD(b:(Ŀ (Ŀ Zf)))(d:(Ŀ Int)):(Int×(Ŀ Zf))->Cq (Ŀ Zf):=
 Cq.loop λf=>match f with|(a,c)=>if a<(b.length:Int)then(Cq.Θ b a λg=>Cq.Θ d a λh=>Cq.bind (J1 c g h) λe=>Cq.ret (.inl (i64.wrap (a+1),e)))else(Cq.ret (.inr c))
def Zs6(a:(Ŀ (Ŀ Zf)))(b:(Ŀ Int))(c:Int)(d:(Ŀ Zf)):Cq (((Ŀ (Ŀ Zf))×(Ŀ Int)×Int)⊕(((Ŀ (Ŀ Zf))))):=
 Cq.next (QD a b (0,d)) λf=>match f with|e=>Zs5 a b c e
def Qp(c:(Ŀ (Fin 8->Int)))(d:Int):(Int×(Ŀ Zf))->Cq (Ŀ Zf):=
 Cq.loop λf=>match f with|(a,b)=>if a<8 then(Cq.Θ c d λg=>Cq.ë (0<=a/\a<8) (Cq.bind (ZX (Ε g a)) λe=>Cq.Θ b a λh=>Cq.ret (.inl (i64.wrap (a+1),b.set a.toNat e))))else(Cq.ret (.inr b))
def Zs1(b:(Ŀ (Fin 8->Int))):((Ŀ (Ŀ Zf))×(Ŀ Int)×Int)->Cq (((Ŀ (Ŀ Zf)))):=
 Cq.loop λf=>match f with|(c,d,a)=>if a<(b.length:Int)then(Cq.next (Qp b a (0,(List.replicate 8 (Zf.mk (Zg.mk false []) (Zg.mk false []))))) λg=>match g with|e=>Zs6 c d a e)else(Cq.ret (.inr c))
def FE(a:(Ŀ (Fin 8->Int))):Cq Int:=
 Cq.next (Zs1 a ([],[],0)) λc=>match c with|b=>Zs2 b
def FF(a:Int)(b:Int):Cq (Fin 8->Int):=
 Cq.ë (0<=a/\a<8) (Cq.ret (ζ (λ_=>0) a.toNat b))
def ZsY(a:(Ŀ (Fin 8->Int))):Cq ((Ŀ (Fin 8->Int))×Int):=
 Cq.ret (a,0)
def ZsX:((Ŀ (Fin 8->Int))×Int)->Cq (((Ŀ (Fin 8->Int)))):=
 Cq.loop λd=>match d with|(a,c)=>if c<8 then(Cq.bind (FF c 1) λb=>Cq.ë ((a++[b]).length<=small) (Cq.ret (.inl ((a++[b]),i64.wrap (c+1)))))else(Cq.ret (.inr a))
def Lu(a:(Ŀ (Fin 8->Int))):Cq ((Ŀ (Fin 8->Int))×Int):=
 Cq.bind (yL a) λc=>if(!c)=true then Cq.fail else(Cq.ë (([]++a).length<=small) (Cq.bind (FE a) λd=>if d=8 then(Cq.ret (([]++a),0))else(if 16<(a.length:Int)then Cq.fail else(Cq.next (ZsX (([]++a),0)) λe=>match e with|b=>ZsY b))))
def ZnO(a:(Ŀ (Fin 8->Int))):Cq ((Ŀ (Fin 8->Int))×Int):=
 Cq.ret (a,0)
def ZnP(a:(Ŀ (Fin 8->Int)))(c:Int)(b:(Fin 8->Int)):Cq (((Ŀ (Fin 8->Int))×Int)⊕(((Ŀ (Fin 8->Int))))):=
 Cq.ë ((a++[b]).length<=small) (Cq.ret (.inl ((a++[b]),i64.wrap (c+1))))
def PC(b:(Fin 8->Int))(d:(Ŀ (Fin 8->Int))×Int)(e:Int):(Int×(Fin 8->Int))->Cq (Fin 8->Int):=
 Cq.loop λf=>match f with|(a,c)=>if a<8 then(Cq.ë (0<=a/\a<8) (Cq.Θ d.1 e λg=>Cq.ë (0<=a/\a<8) (Cq.ë (0<=Ε b a/\(Ε b a)<8) (Cq.ret (.inl (i64.wrap (a+1),ζ c ((Ε b a).toNat) (Ε g a)))))))else(Cq.ret (.inr c))
def ZnN(b:(Fin 8->Int))(c:(Ŀ (Fin 8->Int))×Int):((Ŀ (Fin 8->Int))×Int)->Cq (((Ŀ (Fin 8->Int)))):=
 Cq.loop λf=>match f with|(a,d)=>if d<(c.1.length:Int)then(Cq.next (PC b c d (0,(λ_=>0))) λg=>match g with|e=>ZnP a d e)else(Cq.ret (.inr a))
def J0(d:(Ŀ (Fin 8->Int)))(a:(Fin 8->Int)):Cq ((Ŀ (Fin 8->Int))×Int):=
 Cq.bind (yL d) λe=>if(!e)=true then Cq.fail else(Cq.bind (Jd a) λf=>if(!f)=true then Cq.fail else(Cq.bind (Lu d) λb=>if ¬b.2=0 then Cq.fail else(Cq.next (ZnN a b ([],0)) λg=>match g with|c=>ZnO c)))
def Eg(a:Int):Cq Bool:=
 if a=1 then(Cq.ret true)else(if a=7 then(Cq.ret true)else(Cq.ret (decide (a=9))))
def JF(a:Zc):Cq Bool:=
 if(a.p.length:Int)=0 then(if(a.o.length:Int)=0 then(Cq.ret true)else(Cq.ret (decide (a.kind=3))))else(Cq.bind (Eg a.kind) λb=>match b with|false=>(Cq.ret false)|true=>(if(a.o.length:Int)=0 then(Cq.ret true)else(Cq.ret (decide (a.kind=3)))))
def KT(b:Zb)(a:Zc):Cq Bool:=
 if a.kind<1 then(Cq.ret false)else(if 10<a.kind then(Cq.ret false)else(Cq.bind (AK a.p) λc=>match c with|false=>(Cq.ret false)|true=>(Cq.bind (wU a.p) λd=>if 12<d then(Cq.ret false)else(Cq.bind (A5 a.p) λe=>Cq.ë (0<=(u64.wrap b.n)) (if(i64.wrap (1*2 ^ (min (u64.wrap b.n).toNat i64.bits)))<=(i64.wrap e)then(Cq.ret false)else(Cq.bind (yL a.o) λf=>if(!f)=true then(Cq.ret false)else(JF a)))))))
def Qg(a:ZE):Cq ZE:=
 if ¬a.e=0 then Cq.fail else(Cq.ret a)
def Zq8(e:Zb)(b:Zc):Cq ZE:=
 Cq.bind (K9 e) λa=>Cq.bind (Aj b.p a.2) λc=>if b.kind=3 then(Cq.bind (J0 b.o a.2) λd=>Qg (ZE.mk a.1 (Zc.mk b.kind c.1 d.1) d.2))else(Qg (ZE.mk a.1 (Zc.mk b.kind c.1 []) 0))
def AO(a:Zb)(b:Zc):Cq ZE:=
 Cq.bind (AL a) λc=>match c with|false=>(Cq.ret (ZE.mk (Zb.mk 0 [] []) (Zc.mk 0 [] []) 1))|true=>(Cq.bind (KT a b) λd=>if(!d)=true then(Cq.ret (ZE.mk (Zb.mk 0 [] []) (Zc.mk 0 [] []) 1))else(Zq8 a b))
def JM(b:Zc)(a:Bool):Cq (Ŀ Zc):=
 if a=true then(Cq.ret [(Zc.mk 5 [] [])])else(if b.kind=7 then(Cq.ret [(Zc.mk 6 [] [])])else(Cq.ret []))
def JN(a:Zc)(b:Bool):Cq (Ŀ Zc):=
 if b=true then(Cq.ret [(Zc.mk 4 [] [])])else(if a.kind=6 then(JM a (decide (a.kind=6)))else(JM a (decide (a.kind=10))))
def Fx(a:Zc):Cq (Ŀ Zc):=
 if a.kind=5 then(JN a (decide (a.kind=5)))else(JN a (decide (a.kind=8)))
def ZqC(a:(Ŀ Int)):Cq (Ŀ Int):=
 Cq.ret a
def ZqD(a:Int)(b:(Ŀ Int)):Cq (((Ŀ Int)×Int)⊕(Ŀ Int)):=
 Cq.ret (.inl (b,i64.wrap (a+1)))
def ZqB(d:(Ŀ (Fin 8->Int)))(e:Int):((Ŀ Int)×Int)->Cq (Ŀ Int):=
 Cq.loop λf=>match f with|(b,a)=>if a<8 then(Cq.Θ d e λg=>Cq.ë (0<=a/\a<8) (Cq.bind (Ay b (Ε g a)) λc=>Cq.ret (.inl (c,i64.wrap (a+1)))))else(Cq.ret (.inr b))
def ZqA(b:(Ŀ (Fin 8->Int))):((Ŀ Int)×Int)->Cq (Ŀ Int):=
 Cq.loop λd=>match d with|(c,a)=>if a<(b.length:Int)then(Cq.next (ZqB b a (c,0)) λe=>match e with|f=>ZqD a f)else(Cq.ret (.inr c))
def K7(c:(Ŀ Int))(a:(Ŀ (Fin 8->Int))):Cq (Ŀ Int):=
 Cq.bind (ua c (u64.wrap (a.length:Int))) λb=>Cq.next (ZqA a (b,0)) λd=>match d with|e=>ZqC e
def F3(a:Zc):Cq Ĳ:=
 Cq.bind (Ay [] a.kind) λb=>Cq.bind (FG b a.p) λc=>Cq.bind (K7 c a.o) λd=>Cq.ret (bytesOf d)
def DW(c:Zc)(d:Zc):Cq Bool:=
 Cq.bind (F3 c) λa=>Cq.bind (F3 d) λb=>Cq.ret (decide (a=b))
def Zv7:Cq Int:=
 Cq.ret (-1)
def E9(b:Zd)(e:Zb)(f:Zc):Int->Cq (Int⊕Unit):=
 Cq.loop λg=>match g with|a=>if a<(b.t.length:Int)then(Cq.Θ b.t a λh=>Cq.bind (Ap h.k e) λc=>match c with|false=>(Cq.ret (.inl (i64.wrap (a+1))))|true=>(Cq.Θ b.t a λi=>Cq.bind (DW i.q f) λd=>if d=true then(Cq.ret (.inr (.inl a)))else(Cq.ret (.inl (i64.wrap (a+1))))))else(Cq.ret (.inr (.inr ())))
def Gh(b:Zd)(c:Zb)(d:Zc):Cq Int:=
 Cq.next (E9 b c d 0) λe=>match e with|.inl a=>Cq.ret a|.inr ()=>Zv7
def Qf(b:ZE)(a:Zd):Cq Zv:=
 Cq.bind (Gh a b.k b.q) λc=>if 0<=c then(Cq.Θ a.t c λd=>Cq.ret (Zv.mk a d.id 0))else(if 100<=(a.t.length:Int)then(Cq.ret (Zv.mk (Zd.mk [] 0) 0 2))else(if 1000000<=a.next then Cq.fail else(Cq.ë ((([]:Ŀ Ze)++a.t).length<=small) (Cq.ë (((([]:Ŀ Ze)++a.t)++[(Ze.mk a.next b.k b.q 0 0 (-1) false)]).length<=small) (Cq.ret (Zv.mk (Zd.mk ((([]:Ŀ Ze)++a.t)++[(Ze.mk a.next b.k b.q 0 0 (-1) false)]) (i64.wrap (a.next+1))) a.next 0))))))
def Zq7(e:Zd->Zb->Zc->Cq Zv)(h:ZE)(c:(Ŀ Zc)):(Int×Zd×Zv)->Cq (Zv⊕(Zd×Zv)):=
 Cq.loop λi=>match i with|(a,d,f)=>if a<(c.length:Int)then(Cq.Θ c a λj=>Cq.bind (e d h.k j) λg=>if ¬g.e=0 then Cq.fail else(Cq.ret (.inl (i64.wrap (a+1),g.b,f))))else(Cq.ret (.inr (.inr (d,f))))
def Ke(e:Zd->Zb->Zc->Cq Zv)(b:Zd)(c:Zb)(d:Zc):Cq Zv:=
 Cq.bind (AO c d) λa=>if ¬a.e=0 then(Cq.ret (Zv.mk (Zd.mk [] 0) 0 a.e))else(Cq.bind (Fx a.q) λf=>Cq.next (Zq7 e a f (0,b,(Zv.mk (Zd.mk [] 0) 0 0))) λi=>match i with|.inl g=>Cq.ret g|.inr (h,j)=>Qf a h)
def AN:Nat->Zd->Zb->Zc->Cq Zv
 |0,_,_,_=>Cq.fail
 |n+1,a,b,c=>Ke (AN n) a b c
def Mc(a:Int):Cq ((Ŀ Za)×Int):=
 if a<0 then(Cq.ret ([],1))else(if 8<=a then Cq.fail else(Cq.ë (0<=a/\a<8) (Cq.bind (ZX 1) λb=>Cq.ret ([(Za.mk b (ζ (λ_=>0) a.toNat 1))],0))))
def Bc:Cq Zd:=
 Cq.ret (Zd.mk [] 1)
def AX(a:Int):Cq Zc:=
 Cq.ret (Zc.mk a [] [])
def Zod(c:(Ŀ Int))(b:(Ŀ Int))(a:Int):Cq (Ŀ Int):=
 Cq.Θ b (c.length:Int) λe=>Cq.bind (ZY (b.set (c.length:Int).toNat (u32.wrap a))) λd=>Cq.ret d
def PG(b:(Ŀ Int))(a:Int)(c:Int):Cq (((Ŀ Int)×Int×Int)⊕(((Ŀ Int)×Int))):=
 Cq.Θ b a λd=>Cq.ret (.inl ((b.set a.toNat (u32.wrap c)),Int.fdiv c (2 ^ (min (32:Int).toNat u64.bits)),i64.wrap (a+1)))
def Zoc(d:(Ŀ Int))(e:(Ŀ Int)):((Ŀ Int)×Int×Int)->Cq (((Ŀ Int)×Int)):=
 Cq.loop λg=>match g with|(c,b,a)=>if a<(d.length:Int)then(Cq.Θ d a λf=>if a<(e.length:Int)then(Cq.Θ e a λh=>PG c a (u64.wrap ((u64.wrap ((u64.wrap f)+b))+(u64.wrap h))))else(PG c a (u64.wrap ((u64.wrap f)+b))))else(Cq.ret (.inr (c,b)))
def JA(a:(Ŀ Int))(d:(Ŀ Int)):Cq (Ŀ Int):=
 Cq.ë (0<=i64.wrap ((a.length:Int)+1)/\(i64.wrap ((a.length:Int)+1))<=1000000) (Cq.next (Zoc a d ((List.replicate (i64.wrap ((a.length:Int)+1)).toNat 0),0,0)) λe=>match e with|(c,b)=>Zod a c b)
def Rq(a:(Ŀ Int))(b:(Ŀ Int)):Cq (Ŀ Int):=
 if(a.length:Int)<(b.length:Int)then(JA b a)else(JA a b)
def Zht(a:(Ŀ Int)):Cq (Ŀ Int):=
 Cq.bind (ZY a) λb=>Cq.ret b
def O9(b:(Ŀ Int))(a:Int)(c:Int):Cq (((Ŀ Int)×Int×Int)⊕(Ŀ Int)):=
 Cq.Θ b a λd=>Cq.ret (.inl ((b.set a.toNat (u32.wrap c)),Int.fdiv c (2 ^ (min (63:Int).toNat u64.bits)),i64.wrap (a+1)))
def Zhs(d:(Ŀ Int))(e:(Ŀ Int)):((Ŀ Int)×Int×Int)->Cq (Ŀ Int):=
 Cq.loop λg=>match g with|(c,b,a)=>if a<(d.length:Int)then(Cq.Θ d a λf=>if a<(e.length:Int)then(Cq.Θ e a λh=>O9 c a (u64.wrap ((u64.wrap ((u64.wrap f)-b))-(u64.wrap h))))else(O9 c a (u64.wrap ((u64.wrap f)-b))))else(Cq.ret (.inr c))
def Ja(a:(Ŀ Int))(c:(Ŀ Int)):Cq (Ŀ Int):=
 Cq.ë (0<=(a.length:Int)/\(a.length:Int)<=1000000) (Cq.next (Zhs a c ((List.replicate (a.length:Int).toNat 0),0,0)) λd=>match d with|b=>Zht b)
def Zol:Cq Bool:=
 Cq.ret true
def Zom(a:Int)(b:(Fin 8->Bool)):Cq ((Int×(Fin 8->Bool))⊕(Bool⊕Unit)):=
 Cq.ret (.inl (i64.wrap (a+1),b))
def D8(c:(Fin 8->Int))(a:Int)(b:(Fin 8->Bool)):Cq ((Int×(Fin 8->Bool))⊕(Bool⊕(Fin 8->Bool))):=
 Cq.ë (0<=a/\a<8) (if(Ε b a)=true then(Cq.ë (0<=a/\a<8) (Cq.ret (.inl (i64.wrap (a+1),ζ b a.toNat true))))else(Cq.ë (0<=a/\a<8) (Cq.ret (.inl (i64.wrap (a+1),ζ b a.toNat (decide (¬(Ε c a)=0)))))))
def PJ(c:(Fin 8->Int)):(Int×(Fin 8->Bool))->Cq (Bool⊕(Fin 8->Bool)):=
 Cq.loop λd=>match d with|(a,b)=>if a<8 then(Cq.ë (0<=a/\a<8) (if(Ε c a)<(-1000)then(Cq.ret (.inr (.inl false)))else(if 1000<(Ε c a)then(Cq.ret (.inr (.inl false)))else(if(Ε c a)<0 then(Cq.ë (0<=a/\a<8) (if(!(Ε b a))=true then Cq.fail else(D8 c a b)))else(D8 c a b)))))else(Cq.ret (.inr (.inr b)))
def Zok(b:(Ŀ (Fin 8->Int))):(Int×(Fin 8->Bool))->Cq (Bool⊕Unit):=
 Cq.loop λf=>match f with|(a,c)=>if a<(b.length:Int)then(Cq.Θ b a λg=>Cq.next (PJ g (0,c)) λh=>match h with|.inl d=>Cq.ret (.inr (.inl d))|.inr e=>Zom a e)else(Cq.ret (.inr (.inr ())))
def yw(a:(Ŀ (Fin 8->Int))):Cq Bool:=
 if 24<(a.length:Int)then Cq.fail else(Cq.next (Zok a (0,(λ_=>false))) λc=>match c with|.inl b=>Cq.ret b|.inr ()=>Zol)
def D6(a:Zc):Cq Bool:=
 if a.kind=1 then(if a.kind=1 then(Cq.ret true)else(Cq.ret (decide ((a.p.length:Int)=0))))else(if a.kind=7 then(if a.kind=7 then(Cq.ret true)else(Cq.ret (decide ((a.p.length:Int)=0))))else(if a.kind=9 then(Cq.ret true)else(Cq.ret (decide ((a.p.length:Int)=0)))))
def JY(a:Zc):Cq Bool:=
 Cq.bind (yw a.o) λb=>match b with|false=>(Cq.ret false)|true=>(if 0<(a.o.length:Int)then(if ¬a.kind=3 then(Cq.ret false)else(D6 a))else(D6 a))
def PS(b:Zb)(a:Zc):Cq Bool:=
 Cq.bind (z7 a.p) λc=>match c with|false=>(Cq.ret false)|true=>(Cq.bind (wP a.p) λd=>if 12<d then(Cq.ret false)else(Cq.bind (Ae a.p) λe=>Cq.ë (0<=b.n) (if ¬(Int.fdiv e (2 ^ (min (b.n).toNat u8.bits)))=0 then(Cq.ret false)else(JY a))))
def ES(b:Zb)(a:Zc):Cq Bool:=
 if a.kind<1 then(Cq.ret false)else(if 10<a.kind then(Cq.ret false)else(PS b a))
def O4(a:(Ŀ (Fin 8->Int))):Cq ((Ŀ (Fin 8->Int))):=
 Cq.pX a (Cq.ret []) (Cq.ë (([]++a).length<=small) (Cq.ret ([]++a)))
def JT(a:(Ŀ Zf))(b:Int):Cq Bool:=
 Cq.Θ a b λd=>Cq.bind (ZH d) λc=>Cq.ret (decide (¬c=0))
def QI(a:Zf):Cq (Zf×Int):=
 Cq.bind (u7 a.num) λb=>if b=0 then Cq.fail else(if b=(-1)then(Cq.bind (yv a.den) λc=>Cq.bind (yv a.num) λd=>Cq.ret ((Zf.mk c d),0))else(Cq.ret ((Zf.mk a.den a.num),0)))
def Ei(c:Zf)(d:Zf):Cq (Zf×Int):=
 Cq.bind (QI d) λa=>if ¬a.2=0 then Cq.fail else(Cq.bind (Z7 c a.1) λb=>Cq.ret (b,0))
def QJ(a:Zf):Cq Zf:=
 Cq.bind (yv a.num) λb=>Cq.ret (Zf.mk b a.den)
def Rn(a:Zg)(b:Zg):Cq Zg:=
 if a.neg=b.neg then(Cq.bind (Rq a.υ b.υ) λc=>Cq.bind (ZS a.neg c) λd=>Cq.ret d)else(Cq.bind (Ad a.υ b.υ) λe=>if 0<=e then(Cq.bind (Ja a.υ b.υ) λf=>Cq.bind (ZS a.neg f) λg=>Cq.ret g)else(Cq.bind (Ja b.υ a.υ) λh=>Cq.bind (ZS b.neg h) λi=>Cq.ret i))
def QH(a:Zf)(b:Zf):Cq Zf:=
 Cq.bind (Z8 [a.num,b.den]) λc=>Cq.bind (Z8 [b.num,a.den]) λd=>Cq.bind (Rn c d) λe=>Cq.bind (Z8 [a.den,b.den]) λf=>Cq.bind (Af e f) λg=>Cq.ret g
def Ek(c:Zf)(d:Zf):Cq Zf:=
 Cq.bind (QJ d) λa=>Cq.bind (QH c a) λb=>Cq.ret b
def ZaK:Cq Int:=
 Cq.ret (-1)
def ZaJ(c:(Ŀ (Ŀ Zf)))(b:Int):Int->Cq (Int⊕Unit):=
 Cq.loop λe=>match e with|a=>if a<(c.length:Int)then(Cq.Θ c a λf=>Cq.bind (JT f b) λd=>if d=true then(Cq.ret (.inr (.inl a)))else(Cq.ret (.inl (i64.wrap (a+1)))))else(Cq.ret (.inr (.inr ())))
def ZN(c:(Ŀ (Ŀ Zf)))(a:Int):Cq Int:=
 Cq.next (ZaJ c a 0) λd=>match d with|.inl b=>Cq.ret b|.inr ()=>ZaK
def ZpW(a:Int):Cq Int:=
 Cq.ret a
def ZpX(b:Int)(a:Int)(c:(Ŀ (Ŀ Zf))):Cq (((Ŀ (Ŀ Zf))×Int×Int)⊕Int):=
 Cq.ret (.inl (c,i64.wrap (b+1),i64.wrap (a+1)))
def ZpY(a:Int)(b:(Ŀ (Ŀ Zf))):Cq (((Ŀ (Ŀ Zf))×Int)⊕(((Ŀ (Ŀ Zf))))):=
 Cq.ret (.inl (b,i64.wrap (a+1)))
def Qa(e:Int)(c:Int)(f:Zf×Int):((Ŀ (Ŀ Zf))×Int)->Cq (((Ŀ (Ŀ Zf)))):=
 Cq.loop λl=>match l with|(b,a)=>if a<8 then(Cq.Θ b c λm=>Cq.Θ m a λg=>Cq.Θ b e λh=>Cq.Θ h a λi=>Cq.bind (Z7 f.1 i) λj=>Cq.bind (Ek g j) λk=>Cq.Θ b c λd=>Cq.Θ d a λn=>Cq.ret (.inl ((b.set c.toNat (d.set a.toNat k)),i64.wrap (a+1))))else(Cq.ret (.inr b))
def P9(d:Int)(c:Int):((Ŀ (Ŀ Zf))×Int)->Cq (((Ŀ (Ŀ Zf)))):=
 Cq.loop λg=>match g with|(b,a)=>if a<(b.length:Int)then(Cq.Θ b a λh=>Cq.Θ h c λi=>Cq.Θ b d λj=>Cq.Θ j c λk=>Cq.bind (Ei i k) λf=>Cq.next (Qa d a f (b,c)) λl=>match l with|e=>ZpY a e)else(Cq.ret (.inr b))
def ZpV:((Ŀ (Ŀ Zf))×Int×Int)->Cq Int:=
 Cq.loop λg=>match g with|(b,a,c)=>if c<8 then(Cq.ë (0<=a/\a<=(b.length:Int)) (Cq.bind (ZN (b.drop a.toNat) c) λd=>if d<0 then(Cq.ret (.inl (b,a,i64.wrap (c+1))))else(Cq.Θ b (i64.wrap (a+d)) λf=>Cq.Θ b a λh=>Cq.Θ b a λj=>Cq.Θ (b.set a.toNat f) (i64.wrap (a+d)) λk=>Cq.next (P9 a c (((b.set a.toNat f).set (i64.wrap (a+d)).toNat h),i64.wrap (a+1))) λi=>match i with|e=>ZpX a c e)))else(Cq.ret (.inr a))
def ZpZ(a:(Ŀ (Ŀ Zf))):Cq Int:=
 Cq.next (ZpV (a,0,0)) λc=>match c with|b=>ZpW b
def Zp0(a:Int)(b:(Ŀ (Ŀ Zf))):Cq (((Ŀ (Ŀ Zf))×Int)⊕(((Ŀ (Ŀ Zf))))):=
 Cq.ret (.inl (b,i64.wrap (a+1)))
def PK(c:Int)(e:(Fin 8->Int)):((Ŀ (Ŀ Zf))×Int)->Cq (((Ŀ (Ŀ Zf)))):=
 Cq.loop λg=>match g with|(b,a)=>if a<8 then(Cq.ë (0<=a/\a<8) (Cq.bind (wM (Ε e a)) λf=>Cq.Θ b c λd=>Cq.Θ d a λh=>Cq.ret (.inl ((b.set c.toNat (d.set a.toNat f)),i64.wrap (a+1)))))else(Cq.ret (.inr b))
def Qb(b:(Ŀ (Fin 8->Int))):((Ŀ (Ŀ Zf))×Int)->Cq (((Ŀ (Ŀ Zf)))):=
 Cq.loop λf=>match f with|(c,a)=>if a<(b.length:Int)then(Cq.Θ b a λe=>Cq.next (PK a e (c,0)) λg=>match g with|d=>Zp0 a d)else(Cq.ret (.inr c))
def EO(a:(Ŀ (Fin 8->Int))):Cq Int:=
 Cq.ë (0<=(a.length:Int)/\(a.length:Int)<=1000000) (Cq.next (Qb a ((List.replicate (a.length:Int).toNat (List.replicate 8 (Zf.mk (Zg.mk false []) (Zg.mk false [])))),0)) λc=>match c with|b=>ZpZ b)
def ZpU(a:(Fin 8->Int)):Cq (Fin 8->Int):=
 Cq.ret a
def ZpT(b:Int):(Int×(Fin 8->Int))->Cq (Fin 8->Int):=
 Cq.loop λd=>match d with|(a,c)=>if a<8 then(Cq.ë (0<=a) (Cq.ë (0<=a/\a<8) (Cq.ret (.inl (i64.wrap (a+1),ζ c a.toNat (i64.wrap (u8.wrap (BitVec.ofInt u8.bits (Int.fdiv b (2 ^ (min (a).toNat u8.bits))) &&& BitVec.ofInt u8.bits 1).toNat)))))))else(Cq.ret (.inr c))
def KK(a:Int):Cq (Fin 8->Int):=
 Cq.next (ZpT a (0,(λ_=>0))) λc=>match c with|b=>ZpU b
def ZpS(a:(Ŀ (Fin 8->Int))):Cq ((Ŀ (Fin 8->Int))×Int):=
 Cq.ret (a,0)
def ZpR:((Ŀ (Fin 8->Int))×Int)->Cq (((Ŀ (Fin 8->Int)))):=
 Cq.loop λd=>match d with|(b,a)=>if a<8 then(Cq.ë (0<=a) (Cq.bind (KK (u8.wrap (1*2 ^ (min (a).toNat u8.bits)))) λc=>Cq.ë ((b++[c]).length<=small) (Cq.ret (.inl ((b++[c]),i64.wrap (a+1))))))else(Cq.ret (.inr b))
def KJ(a:(Ŀ (Fin 8->Int))):Cq ((Ŀ (Fin 8->Int))×Int):=
 Cq.bind (yw a) λc=>if(!c)=true then Cq.fail else(Cq.bind (O4 a) λb=>Cq.bind (EO a) λd=>if d=8 then(Cq.ret (b,0))else(if 24<(i64.wrap ((a.length:Int)+8))then Cq.fail else(Cq.next (ZpR (b,0)) λf=>match f with|e=>ZpS e)))
def Zmk(a:(Ŀ (Fin 8->Int))):Cq ((Ŀ (Fin 8->Int))×Int):=
 Cq.ret (a,0)
def Zml(a:Int)(b:(Ŀ (Fin 8->Int))):Cq (((Ŀ (Fin 8->Int))×Int)⊕(((Ŀ (Fin 8->Int))))):=
 Cq.ret (.inl (b,i64.wrap (a+1)))
def Pm(c:(Fin 8->Int))(d:Int)(e:(Fin 8->Int)):((Ŀ (Fin 8->Int))×Int)->Cq (((Ŀ (Fin 8->Int)))):=
 Cq.loop λf=>match f with|(b,a)=>if a<8 then(Cq.ë (0<=a/\a<8) (Cq.ë (0<=a/\a<8) (Cq.Θ b d λg=>Cq.ë (0<=Ε c a/\(Ε c a)<8) (Cq.ret (.inl ((b.set d.toNat (ζ g (Ε c a).toNat (Ε e a))),i64.wrap (a+1)))))))else(Cq.ret (.inr b))
def Zmi(e:(Fin 8->Int))(d:(Ŀ (Fin 8->Int))×Int):((Ŀ (Fin 8->Int))×Int)->Cq (((Ŀ (Fin 8->Int)))):=
 Cq.loop λf=>match f with|(b,a)=>if a<(d.1.length:Int)then(Cq.Θ d.1 a λg=>Cq.next (Pm e a g (b,0)) λh=>match h with|c=>Zml a c)else(Cq.ret (.inr b))
def Pn(c:(Ŀ (Fin 8->Int)))(d:(Fin 8->Int)):Cq ((Ŀ (Fin 8->Int))×Int):=
 Cq.bind (KJ c) λa=>if ¬a.2=0 then Cq.fail else(Cq.ë (0<=(a.1.length:Int)/\(a.1.length:Int)<=1000000) (Cq.next (Zmi d a ((List.replicate (a.1.length:Int).toNat (λ_=>0)),0)) λe=>match e with|b=>Zmk b))
def Zmj(b:(Fin 8->Int)):(Int×(Fin 8->Bool))->Cq (((Ŀ (Fin 8->Int))×Int)⊕Unit):=
 Cq.loop λd=>match d with|(a,c)=>if a<8 then(Cq.ë (0<=a/\a<8) (if(Ε b a)<0 then(Cq.ret (.inr (.inl ([],1))))else(if 8<=(Ε b a)then(Cq.ret (.inr (.inl ([],1))))else(Cq.ë (0<=Ε b a/\(Ε b a)<8) (if(Ε c (Ε b a))=true then Cq.fail else(Cq.ë (0<=Ε b a/\(Ε b a)<8) (Cq.ret (.inl (i64.wrap (a+1),ζ c ((Ε b a).toNat) true)))))))))else(Cq.ret (.inr (.inr ())))
def JS(a:(Ŀ (Fin 8->Int)))(b:(Fin 8->Int)):Cq ((Ŀ (Fin 8->Int))×Int):=
 Cq.bind (yw a) λc=>if(!c)=true then Cq.fail else(Cq.next (Zmj b (0,(λ_=>false))) λe=>match e with|.inl d=>Cq.ret d|.inr ()=>Pn a b)
def D'(b:Zc)(a:(Fin 8->Int)):Cq (Zc×Int):=
 Cq.bind (DY b.p a) λc=>if ¬c.2=0 then Cq.fail else(if b.kind=3 then(Cq.bind (JS b.o a) λd=>if ¬d.2=0 then Cq.fail else(Cq.ret ((Zc.mk b.kind c.1 d.1),0)))else(Cq.ret ((Zc.mk b.kind c.1 []),0)))
def Z3(a:(Ŀ Ze)):Cq (Ŀ Ze):=
 Cq.pX a (Cq.ret []) (Cq.ë (([]++a).length<=small) (Cq.ret ([]++a)))
def ZtS(b:Zd)(c:Zb×(Fin 8->Int))(d:Zc×Int)(e:(Ŀ (Ĳ×Int))):Cq (Zd×Int×Int):=
 Cq.bind (Z3 b.t) λf=>Cq.bind (vc 5 c.1 d.1 e (Zd.mk f b.next)) λa=>if ¬a.1.2=0 then Cq.fail else(Cq.ret ((Zd.mk a.2.2.t a.2.2.next),a.1.1,0))
def EF(b:Zd):(Int×(Ŀ (Ĳ×Int)))->Cq (((Ŀ (Ĳ×Int)))):=
 Cq.loop λf=>match f with|(a,c)=>if a<(b.t.length:Int)then(Cq.Θ b.t a λe=>Cq.bind (tA e.k e.q) λd=>Cq.ë ((d.size<=1000000)/\(eS c d e.id).length<=small) (Cq.ret (.inl (i64.wrap (a+1),(eS c d e.id)))))else(Cq.ret (.inr c))
def QV(a:Zd)(d:Zb)(e:Zc):Cq (Zd×Int×Int):=
 Cq.bind (El d) λb=>Cq.bind (D' e b.2) λc=>if ¬c.2=0 then Cq.fail else(Cq.next (EF a (0,[])) λg=>match g with|f=>ZtS a b c f)
def xt(c:Zd)(a:Zb)(b:Zc):Cq (Zd×Int×Int):=
 Cq.bind (vb a) λd=>match d with|false=>(Cq.ret ((Zd.mk [] 0),0,1))|true=>(Cq.bind (ES a b) λe=>if(!e)=true then(Cq.ret ((Zd.mk [] 0),0,1))else(QV c a b))
def ZsH:Cq (Ze×Bool):=
 Cq.ret ((Ze.mk 0 (Zb.mk 0 [] []) (Zc.mk 0 [] []) 0 0 0 false),false)
def Kd(c:Zd)(d:Int):(Int×Ze)->Cq ((Ze×Bool)⊕Ze):=
 Cq.loop λf=>match f with|(a,b)=>if a<(c.t.length:Int)then(Cq.Θ c.t a λe=>if e.id=d then(Cq.ret (.inr (.inl (e,true))))else(Cq.ret (.inl (i64.wrap (a+1),b))))else(Cq.ret (.inr (.inr b)))
def yQ(c:Zd)(a:Int):Cq (Ze×Bool):=
 Cq.next (Kd c a (0,(Ze.mk 0 (Zb.mk 0 [] []) (Zc.mk 0 [] []) 0 0 0 false))) λd=>match d with|.inl b=>Cq.ret b|.inr e=>ZsH
def fu(a:ZD)(c:(Ŀ Za)):Cq Bool:=
 Cq.bind (è a c 64) λb=>Cq.ret b
def Za0:Cq Bool:=
 Cq.ret true
def ZaZ(c:(Ŀ (Ŀ Za)))(b:ZD):Int->Cq (Bool⊕Unit):=
 Cq.loop λe=>match e with|a=>if a<(c.length:Int)then(Cq.Θ c a λf=>Cq.bind (fu b f) λd=>if(!d)=true then(Cq.ret (.inr (.inl false)))else(Cq.ret (.inl (i64.wrap (a+1)))))else(Cq.ret (.inr (.inr ())))
def O0(c:(Ŀ (Ŀ Za)))(a:ZD):Cq Bool:=
 Cq.next (ZaZ c a 0) λd=>match d with|.inl b=>Cq.ret b|.inr ()=>Za0
def fh(a:ZD)(c:(Ŀ (Ŀ Za))):Cq Bool:=
 Cq.bind (O0 c a) λb=>Cq.ret b
def Æ(a:ZD)(b:(Ŀ (Ŀ Za))):Cq Bool:=
 if(b.length:Int)<=64 then(Cq.bind (fh a b) λc=>Cq.ret c)else(Cq.ret false)
def Ed(a:Int):Cq Bool:=
 if 0<=a then(Cq.ret (decide (a<=1000000)))else(Cq.ret false)
def Jj(a:Zl):Cq Bool:=
 Cq.bind (ZZ a.lo) λb=>match b with|false=>(Cq.ret false)|true=>(Cq.bind (ZZ a.hi) λc=>match c with|false=>(Cq.ret false)|true=>(Cq.bind (u9 a.lo a.hi) λd=>Cq.ret (decide (d<=0))))
def tv(a:Zf):Cq Bool:=
 Cq.bind (ZZ a) λb=>match b with|false=>(Cq.ret false)|true=>(Cq.bind (ZH a) λc=>Cq.ret (decide (c=0)))
def gF:Cq Bool:=
 Cq.ret true
def gE(b:ZD)(i:(Ŀ Zl)):Int->Cq (Bool⊕Unit):=
 Cq.loop λj=>match j with|a=>if a<8 then(Cq.Θ i a λc=>if a<b.k.n then(Cq.bind (Jj c) λd=>match d with|false=>(Cq.ret (.inr (.inl false)))|true=>(if b.k.n<=a then(Cq.bind (tv c.lo) λe=>match e with|false=>(Cq.ret (.inr (.inl false)))|true=>(Cq.bind (tv c.hi) λf=>if(!f)=true then(Cq.ret (.inr (.inl false)))else(Cq.ret (.inl (i64.wrap (a+1))))))else(Cq.ret (.inl (i64.wrap (a+1))))))else(if b.k.n<=a then(Cq.bind (tv c.lo) λg=>match g with|false=>(Cq.ret (.inr (.inl false)))|true=>(Cq.bind (tv c.hi) λh=>if(!h)=true then(Cq.ret (.inr (.inl false)))else(Cq.ret (.inl (i64.wrap (a+1))))))else(Cq.ret (.inl (i64.wrap (a+1))))))else(Cq.ret (.inr (.inr ())))
def dN(a:ZD)(c:(Ŀ Zl)):Cq Bool:=
 Cq.next (gE a c 0) λd=>match d with|.inl b=>Cq.ret b|.inr ()=>gF
def Za5:Cq Bool:=
 Cq.ret true
def Za4(c:(Ŀ (Ŀ Zl)))(b:ZD):Int->Cq (Bool⊕Unit):=
 Cq.loop λe=>match e with|a=>if a<(c.length:Int)then(Cq.Θ c a λf=>Cq.bind (dN b f) λd=>if(!d)=true then(Cq.ret (.inr (.inl false)))else(Cq.ret (.inl (i64.wrap (a+1)))))else(Cq.ret (.inr (.inr ())))
def O2(c:(Ŀ (Ŀ Zl)))(a:ZD):Cq Bool:=
 Cq.next (Za4 c a 0) λd=>match d with|.inl b=>Cq.ret b|.inr ()=>Za5
def Â(a:ZD)(b:(Ŀ (Ŀ Zl))):Cq Bool:=
 if(b.length:Int)<=64 then(Cq.bind (O2 b a) λc=>Cq.ret c)else(Cq.ret false)
def JI(a:Int):Cq Bool:=
 if(-1)<=a then(Cq.ret (decide (a<=1)))else(Cq.ret false)
def ZO(a:Zj):Cq Bool:=
 if a.kind=0 then(if a.n=0 then(if a.d=0 then(if a.r=0 then(if(a.p.length:Int)=0 then(if(a.o.length:Int)=0 then(if(a.l.length:Int)=0 then(if(a.s.length:Int)=0 then(Cq.ret (decide ((a.b.length:Int)=0)))else(Cq.ret false))else(Cq.ret false))else(Cq.ret false))else(Cq.ret false))else(Cq.ret false))else(Cq.ret false))else(Cq.ret false))else(Cq.ret false)
def Zd7:Cq Bool:=
 Cq.ret true
def Zd6(b:(Ŀ Int)):Int->Cq (Bool⊕Unit):=
 Cq.loop λd=>match d with|a=>if a<(b.length:Int)then(Cq.Θ b a λe=>Cq.bind (JI e) λc=>if(!c)=true then(Cq.ret (.inr (.inl false)))else(Cq.ret (.inl (i64.wrap (a+1)))))else(Cq.ret (.inr (.inr ())))
def IZ(b:(Ŀ Int)):Cq Bool:=
 Cq.next (Zd6 b 0) λc=>match c with|.inl a=>Cq.ret a|.inr ()=>Zd7
def ø(a:vd)(e:Bool):Cq Bool:=
 if e=true then(Cq.bind (Ed a.c.n) λf=>if f=true then(Cq.bind (ZO (Zj.mk 0 a.c.p 0 a.c.d a.c.r a.c.o a.c.l a.c.s a.c.b)) λg=>Cq.ret g)else(Cq.ret false))else(Cq.ret false)
def ù(a:vd)(e:Bool):Cq Bool:=
 if e=true then(Cq.bind (ZO (Zj.mk 0 a.c.p a.c.n a.c.d a.c.r a.c.o a.c.l a.c.s a.c.b)) λw=>Cq.ret w)else(if a.c.kind=4 then(Cq.bind (yw a.c.o) λx=>match x with|false=>(Cq.ret false)|true=>(Cq.bind (Æ a.rules a.c.l) λy=>if y=true then(Cq.bind (ZO (Zj.mk 0 a.c.p a.c.n a.c.d a.c.r [] [] a.c.s a.c.b)) λz=>Cq.ret z)else(Cq.ret false)))else(if a.c.kind=5 then(if(-1)<=a.c.d then(if a.c.d<=a.rules.k.n then(Cq.bind (Ed a.c.n) λc=>if c=true then(Cq.bind (ZO (Zj.mk 0 a.c.p 0 0 a.c.r a.c.o a.c.l a.c.s a.c.b)) λd=>Cq.ret d)else(Cq.ret false))else(Cq.ret false))else(Cq.ret false))else(if a.c.kind=6 then(if 0<=a.c.r then(if a.c.r<=a.c.d then(if a.c.d<=a.c.n then(Cq.bind (Ed a.c.n) λf=>if f=true then(Cq.bind (ZO (Zj.mk 0 a.c.p 0 0 0 a.c.o a.c.l a.c.s a.c.b)) λg=>Cq.ret g)else(Cq.ret false))else(Cq.ret false))else(Cq.ret false))else(Cq.ret false))else(if a.c.kind=7 then(Cq.bind (Â a.rules a.c.b) λh=>if h=true then(Cq.bind (ZO (Zj.mk 0 a.c.p a.c.n a.c.d a.c.r a.c.o a.c.l a.c.s [])) λi=>Cq.ret i)else(Cq.ret false))else(if a.c.kind=8 then(Cq.bind (è a.rules a.c.p 12) λj=>match j with|false=>(Cq.ret false)|true=>(Cq.bind (Â a.rules a.c.b) λm=>match m with|false=>(Cq.ret false)|true=>(if(a.c.s.length:Int)=(a.c.b.length:Int)then(Cq.bind (IZ a.c.s) λq=>if q=true then(Cq.bind (ZO (Zj.mk 0 [] a.c.n a.c.d a.c.r a.c.o a.c.l [] [])) λt=>Cq.ret t)else(Cq.ret false))else(Cq.ret false))))else(if a.c.kind=11 then(Cq.bind (Æ a.rules a.c.l) λu=>if u=true then(Cq.bind (ZO (Zj.mk 0 a.c.p a.c.n a.c.d a.c.r a.c.o [] a.c.s a.c.b)) λv=>Cq.ret v)else(Cq.ret false))else(if a.c.kind=12 then(ø a (decide (a.c.kind=12)))else(ø a (decide (a.c.kind=13))))))))))
def í(a:vd)(e:Bool):Cq Bool:=
 if e=true then(Cq.bind (è a.rules a.c.p 12) λf=>if f=true then(Cq.bind (ZO (Zj.mk 0 [] a.c.n a.c.d a.c.r a.c.o a.c.l a.c.s a.c.b)) λg=>Cq.ret g)else(Cq.ret false))else(if a.c.kind=3 then(ù a (decide (a.c.kind=3)))else(ù a (decide (a.c.kind=9))))
def eW(a:vd):Cq Bool:=
 Cq.bind (Ã a.rules) λb=>if(!b)=true then(Cq.ret false)else(if a.c.kind=1 then(í a (decide (a.c.kind=1)))else(if a.c.kind=2 then(í a (decide (a.c.kind=2)))else(í a (decide (a.c.kind=10)))))
def ED(b:Zb)(c:Zj):Cq Bool:=
 Cq.bind (eW (vd.mk (ZD.mk b) c)) λa=>Cq.ret a
def ZkW:Cq Bool:=
 Cq.ret true
def ZkV(b:(Ŀ (Fin 8->Int)))(c:(Ŀ (Fin 8->Int))):Int->Cq (Bool⊕Unit):=
 Cq.loop λd=>match d with|a=>if a<(b.length:Int)then(Cq.Θ b a λe=>Cq.Θ c a λf=>if ¬e=f then(Cq.ret (.inr (.inl false)))else(Cq.ret (.inl (i64.wrap (a+1)))))else(Cq.ret (.inr (.inr ())))
def Eh(a:(Ŀ (Fin 8->Int)))(b:(Ŀ (Fin 8->Int))):Cq Bool:=
 if ¬(a.length:Int)=(b.length:Int)then(Cq.ret false)else(Cq.next (ZkV a b 0) λd=>match d with|.inl c=>Cq.ret c|.inr ()=>ZkW)
def Ju(c:Zb)(b:Zc)(a:Zj):Cq Bool:=
 if b.kind=1 then(if a.kind=1 then(Cq.bind (ZU a.p b.p) λd=>Cq.ret d)else(if a.kind=2 then(Cq.bind (ZU a.p b.p) λe=>Cq.ret e)else(Cq.ret false)))else(if b.kind=2 then(Cq.bind (wM 1) λf=>Cq.bind (DR f) λg=>if a.kind=3 then(Cq.ret true)else(if a.kind=2 then(if(c.ε.length:Int)=0 then(Cq.bind (ZU a.p g) λh=>Cq.ret h)else(Cq.ret false))else(Cq.ret false)))else(if b.kind=3 then(if a.kind=4 then(Cq.bind (Eh a.o b.o) λi=>Cq.ret i)else(Cq.ret false))else(if b.kind=4 then(Cq.ret (decide (a.kind=5)))else(if b.kind=5 then(Cq.ret (decide (a.kind=6)))else(if b.kind=6 then(Cq.ret (decide (a.kind=7)))else(if b.kind=7 then(if a.kind=8 then(Cq.bind (ZU a.p b.p) λj=>Cq.ret j)else(Cq.ret false))else(if b.kind=8 then(if a.kind=9 then(Cq.ret true)else(if a.kind=6 then(Cq.ret true)else(if a.kind=13 then(Cq.ret (decide (1<=a.n)))else(Cq.ret false))))else(if b.kind=9 then(if a.kind=10 then(Cq.bind (ZU a.p b.p) λk=>Cq.ret k)else(Cq.ret false))else(if b.kind=10 then(Cq.ret (decide (a.kind=11)))else(Cq.ret false))))))))))
def DT(a:Zj)(c:Bool):Cq (Int×Int):=
 if c=true then(Cq.ret ((a.b.length:Int),(a.b.length:Int)))else(if a.kind=9 then(Cq.ret (0,0))else(if a.kind=13 then(Cq.ret (a.n,(-1)))else(if a.kind=12 then(Cq.ret (0,a.n))else(Cq.ret (0,(-1))))))
def DU(a:Zj)(b:Bool):Cq (Int×Int):=
 if b=true then(if a.kind=6 then(Cq.ret (a.r,a.r))else(if a.kind=7 then(DT a (decide (a.kind=7)))else(DT a (decide (a.kind=8)))))else(Cq.ret (0,(-1)))
def JH(b:Zc)(a:Zj):Cq (Int×Int):=
 if b.kind=5 then(if a.kind=6 then(Cq.ret (a.n,a.n))else(if a.kind=12 then(Cq.ret (0,a.n))else(Cq.ret (0,(-1)))))else(if b.kind=8 then(DU a (decide (b.kind=8)))else(DU a (decide (b.kind=6))))
def D5(c:Zj)(a:Ze):Cq Ze:=
 Cq.bind (JH a.q c) λb=>if 0<=b.2 then(if a.high<0 then(Cq.ret (Ze.mk a.id a.k a.q a.χ (if a.low<b.1 then b.1 else a.low) b.2 a.done))else(if b.2<a.high then(Cq.ret (Ze.mk a.id a.k a.q a.χ (if a.low<b.1 then b.1 else a.low) b.2 a.done))else(Cq.ret (Ze.mk a.id a.k a.q a.χ (if a.low<b.1 then b.1 else a.low) a.high a.done))))else(Cq.ret (Ze.mk a.id a.k a.q a.χ (if a.low<b.1 then b.1 else a.low) a.high a.done))
def Kw(a:Ze)(b:Zj):Cq Ze:=
 Cq.bind (Ju a.k a.q b) λc=>if c=true then(D5 b (Ze.mk a.id a.k a.q a.χ a.low a.high true))else(D5 b a)
def Zp4(b:(Ŀ Ze))(a:Int):Cq (Zd×Int):=
 Cq.ret ((Zd.mk b a),0)
def yA(f:Int)(e:Int)(c:(Ŀ Ze))(a:Int)(d:Int)(b:Ze):Cq (((Ŀ Ze)×Int×Int)⊕(((Ŀ Ze)×Int))):=
 if b.id=f then(Cq.Θ c a λg=>Cq.ret (.inl ((c.set a.toNat (Ze.mk b.id b.k b.q (if b.χ<(i64.wrap (e+1))then(i64.wrap (e+1))else b.χ) b.low b.high b.done)),i64.wrap (a+1),d)))else(Cq.Θ c a λh=>Cq.ret (.inl ((c.set a.toNat b),i64.wrap (a+1),d)))
def Zp5(d:Int)(e:Int)(b:(Ŀ Ze))(c:Int)(a:Int)(f:Ze):Cq (((Ŀ Ze)×Int×Int)⊕(((Ŀ Ze)×Int))):=
 yA d e b c a f
def PM(b:(Ŀ Zj)):(Int×Ze)->Cq Ze:=
 Cq.loop λe=>match e with|(a,c)=>if a<(b.length:Int)then(Cq.Θ b a λf=>Cq.bind (Kw c f) λd=>Cq.ret (.inl (i64.wrap (a+1),d)))else(Cq.ret (.inr c))
def Zp2(d:Int)(f:(Ŀ Zj))(e:Int)(h:Ĳ)(i:(Ŀ Ze)):((Ŀ Ze)×Int×Int)->Cq (((Ŀ Ze)×Int)):=
 Cq.loop λm=>match m with|(b,c,a)=>if c<(i.length:Int)then(Cq.Θ b c λg=>Cq.bind (ve g.k) λj=>if j=h then(Cq.next (PM f (0,g)) λn=>match n with|l=>Zp5 d e b c a l)else(yA d e b c a g))else(Cq.ret (.inr (b,a)))
def Zp6(b:Zd)(d:Int)(e:(Ŀ Zj))(f:Int)(h:Ze×Bool):Cq (Zd×Int):=
 Cq.bind (ve h.1.k) λi=>Cq.bind (Z3 b.t) λc=>Cq.next (Zp2 d e f i c (c,0,b.next)) λj=>match j with|(g,a)=>Zp4 g a
def Zp3(b:(Ŀ Zj))(d:Ze×Bool):(Int×Zd)->Cq ((Zd×Int)⊕Zd):=
 Cq.loop λf=>match f with|(a,c)=>if a<(b.length:Int)then(Cq.Θ b a λg=>Cq.bind (ED d.1.k g) λe=>if(!e)=true then(Cq.ret (.inr (.inl ((Zd.mk [] 0),1))))else(Cq.ret (.inl (i64.wrap (a+1),c))))else(Cq.ret (.inr (.inr c)))
def PN(c:Zd)(d:Int)(a:(Ŀ Zj))(e:Int)(b:Ze×Bool)(f:Zd):Cq (Zd×Int):=
 Cq.next (Zp3 a b (0,f)) λh=>match h with|.inl g=>Cq.ret g|.inr i=>Zp6 c d a e b
def wW(b:Zd)(c:Int)(e:(Ŀ Zj))(a:Int):Cq (Zd×Int):=
 Cq.bind (yQ b c) λd=>if(!d.2)=true then(Cq.ret ((Zd.mk [] 0),380))else(if a<0 then(Cq.ret ((Zd.mk [] 0),1))else(if 12<a then(Cq.ret ((Zd.mk [] 0),1))else(PN b c e a d (Zd.mk [] 0))))
def Ew(a:Ze)(b:Ze):Cq Bool:=
 if a.id=b.id then(if a.χ=b.χ then(if a.low=b.low then(if a.high=b.high then(if a.done=b.done then(Cq.bind (Ap a.k b.k) λc=>match c with|false=>(Cq.ret false)|true=>(Cq.bind (DW a.q b.q) λd=>Cq.ret d))else(Cq.ret false))else(Cq.ret false))else(Cq.ret false))else(Cq.ret false))else(Cq.ret false)
def Ztw:Cq Bool:=
 Cq.ret true
def Ztv(b:Zd)(d:Zd):Int->Cq (Bool⊕Unit):=
 Cq.loop λe=>match e with|a=>if a<(b.t.length:Int)then(Cq.Θ b.t a λf=>Cq.Θ d.t a λg=>Cq.bind (Ew f g) λc=>if(!c)=true then Cq.fail else(Cq.ret (.inl (i64.wrap (a+1)))))else(Cq.ret (.inr (.inr ())))
def AZ(a:Zd)(b:Zd):Cq Bool:=
 if ¬a.next=b.next then(Cq.ret false)else(if ¬(a.t.length:Int)=(b.t.length:Int)then Cq.fail else(Cq.next (Ztv a b 0) λd=>match d with|.inl c=>Cq.ret c|.inr ()=>Ztw))
def Pz(a:Ze):Cq Bool:=
 Cq.bind (El a.k) λb=>Cq.bind (ve b.1) λd=>Cq.bind (ve a.k) λe=>if ¬d=e then(Cq.ret false)else(Cq.bind (D' a.q b.2) λc=>if c.2=0 then(Cq.bind (AP c.1) λf=>Cq.bind (AP a.q) λg=>Cq.ret (decide (f=g)))else(Cq.ret false))
def JD(a:Ze):Cq Bool:=
 Cq.bind (vb a.k) λb=>match b with|false=>(Cq.ret false)|true=>(Cq.bind (ES a.k a.q) λc=>if(!c)=true then(Cq.ret false)else(Pz a))
def Kt(a:Ze):Cq Bool:=
 if a.χ<0 then(Cq.ret false)else(if 13<a.χ then(Cq.ret false)else(if a.low<0 then(Cq.ret false)else(if a.high<(-1)then(Cq.ret false)else(JD a))))
def Zqc:Cq Bool:=
 Cq.ret true
def Zqd(b:Int)(c:(Ŀ (Ĳ×Bool)))(d:Ze):Cq ((Int×Int×(Ŀ (Ĳ×Bool)))⊕(Bool⊕Unit)):=
 Cq.bind (tA d.k d.q) λa=>Cq.ë ((a.size<=1000000)/\(eS c a true).length<=small) (Cq.ret (.inl (d.id,i64.wrap (b+1),(eS c a true))))
def JX(d:(Ŀ (Ĳ×Bool)))(e:Ze)(b:(Ŀ Zc)):Int->Cq (Bool⊕Unit):=
 Cq.loop λf=>match f with|a=>if a<(b.length:Int)then(Cq.Θ b a λg=>Cq.bind (tA e.k g) λc=>Cq.ë (c.size<=1000000) (if(!((fb d c).getD false))=true then(Cq.ret (.inr (.inl false)))else(Cq.ret (.inl (i64.wrap (a+1))))))else(Cq.ret (.inr (.inr ())))
def PO(a:Int)(b:(Ŀ (Ĳ×Bool)))(c:Ze):Cq ((Int×Int×(Ŀ (Ĳ×Bool)))⊕(Bool⊕Unit)):=
 Cq.bind (yC c.q) λd=>Cq.next (JX b c d 0) λf=>match f with|.inl e=>Cq.ret (.inr (.inl e))|.inr ()=>Zqd a b c
def JW(b:Zd):(Int×Int×(Ŀ (Ĳ×Bool)))->Cq (Bool⊕Unit):=
 Cq.loop λh=>match h with|(f,a,d)=>if a<(b.t.length:Int)then(Cq.Θ b.t a λc=>if c.id<=f then(Cq.ret (.inr (.inl false)))else(if b.next<=c.id then(Cq.ret (.inr (.inl false)))else(Cq.bind (Kt c) λg=>match g with|false=>(Cq.ret (.inr (.inl false)))|true=>(Cq.bind (tA c.k c.q) λe=>Cq.ë (e.size<=1000000) (if((fb d e).getD false)=true then(Cq.ret (.inr (.inl false)))else(PO a d c))))))else(Cq.ret (.inr (.inr ())))
def PR(a:Zd):Cq Bool:=
 Cq.next (JW a (0,0,[])) λc=>match c with|.inl b=>Cq.ret b|.inr ()=>Zqc
def yE(a:Zd):Cq Bool:=
 if a.next<1 then(Cq.ret false)else(if 1000000<a.next then(Cq.ret false)else(if 100<(a.t.length:Int)then(Cq.ret false)else(PR a)))
def JU(d:Zc)(b:(Ŀ (Ĳ×Bool)))(c:Ze):Cq Bool:=
 Cq.bind (tA c.k d) λa=>Cq.ë (a.size<=1000000) (Cq.ret (!((fb b a).getD false)))
def ZR(a:(Ŀ Ze)):Cq (Ŀ Ze):=
 Cq.bind (tO (u64.wrap (a.length:Int))) λb=>Cq.bind (O3 a 0 (a.length:Int) b) λc=>Cq.ret c
def Zaw:Cq Int:=
 Cq.ret (-1)
def Zav(d:(Ŀ Zc))(b:(Ŀ (Ĳ×Bool)))(c:Ze):Int->Cq (Int⊕Unit):=
 Cq.loop λf=>match f with|a=>if a<(d.length:Int)then(Cq.Θ d a λg=>Cq.bind (JU g b c) λe=>if e=true then(Cq.ret (.inr (.inl a)))else(Cq.ret (.inl (i64.wrap (a+1)))))else(Cq.ret (.inr (.inr ())))
def ZW(d:(Ŀ Zc))(a:(Ŀ (Ĳ×Bool)))(b:Ze):Cq Int:=
 Cq.next (Zav d a b 0) λe=>match e with|.inl c=>Cq.ret c|.inr ()=>Zaw
def ZG(d:(Ŀ Zc))(a:(Ŀ (Ĳ×Bool)))(b:Ze):Cq Bool:=
 Cq.bind (ZW d a b) λc=>Cq.ret (decide (0<=c))
def Zp9(a:(Ŀ Int)):Cq (Ŀ Int):=
 Cq.ret a
def Zp7(c:(Ŀ Ze)):((Ŀ Int)×Int)->Cq (Ŀ Int):=
 Cq.loop λe=>match e with|(a,b)=>if b<(c.length:Int)then(Cq.Θ c b λd=>Cq.ë ((a++[d.id]).length<=small) (Cq.ret (.inl ((a++[d.id]),i64.wrap (b+1)))))else(Cq.ret (.inr a))
def Zqa(b:(Ŀ Ze)):Cq (Ŀ Int):=
 Cq.bind (ZR b) λc=>Cq.next (Zp7 c ([],0)) λd=>match d with|a=>Zp9 a
def Zp8(d:Zd)(e:(Ŀ (Ĳ×Bool))):((Ŀ Ze)×Int)->Cq (Ŀ Ze):=
 Cq.loop λh=>match h with|(b,a)=>if a<(d.t.length:Int)then(Cq.Θ d.t a λc=>if c.done=true then(Cq.ret (.inl (b,i64.wrap (a+1))))else(if c.χ<=12 then(Cq.bind (yC c.q) λf=>Cq.bind (ZG f e c) λg=>if(!g)=true then(Cq.ë ((b++[c]).length<=small) (Cq.ret (.inl ((b++[c]),i64.wrap (a+1)))))else(Cq.ret (.inl (b,i64.wrap (a+1)))))else(Cq.ret (.inl (b,i64.wrap (a+1))))))else(Cq.ret (.inr b))
def Zqb(a:Zd)(c:(Ŀ (Ĳ×Bool))):Cq (Ŀ Int):=
 Cq.next (Zp8 a c ([],0)) λd=>match d with|b=>Zqa b
def D4(c:Zd):(Int×(Ŀ (Ĳ×Bool)))->Cq (((Ŀ (Ĳ×Bool)))):=
 Cq.loop λf=>match f with|(a,b)=>if a<(c.t.length:Int)then(Cq.Θ c.t a λe=>if e.done=true then(Cq.bind (tA e.k e.q) λd=>Cq.ë ((d.size<=1000000)/\(eS b d true).length<=small) (Cq.ret (.inl (i64.wrap (a+1),(eS b d true)))))else(Cq.ret (.inl (i64.wrap (a+1),b))))else(Cq.ret (.inr b))
def ER(a:Zd):Cq (Ŀ Int):=
 Cq.next (D4 a (0,[])) λc=>match c with|b=>Zqb a b
def I8(i:(Ŀ Za)×Int)(j:Zd×Int×Int):Cq Bool:=
 Cq.bind (AX 5) λd=>Cq.bind (xt j.1 (Zb.mk 1 [i.1] []) d) λa=>if ¬a.2.2=0 then(Cq.ret false)else(Cq.bind (wW a.1 a.2.1 [(Zj.mk 12 [] 5 0 0 [] [] [] []),(Zj.mk 12 [] 7 0 0 [] [] [] [])] 0) λc=>Cq.bind (yQ c.1 a.2.1) λb=>if c.2=0 then(if b.2=true then(if b.1.high=5 then(if b.1.low=0 then(if b.1.done=true then(Cq.ret false)else(Cq.bind (Bc) λe=>Cq.bind (yE e) λf=>match f with|false=>(Cq.ret false)|true=>(Cq.bind (Bc) λg=>Cq.bind (ER g) λh=>Cq.ret (decide ((h.length:Int)=0)))))else(Cq.ret false))else(Cq.ret false))else(Cq.ret false))else(Cq.ret false))
def JB:Cq Bool:=
 Cq.bind (Mc 0) λc=>Cq.bind (Bc) λk=>Cq.bind (AX 4) λl=>Cq.bind (xt k (Zb.mk 1 [c.1] []) l) λa=>Cq.bind (AX 4) λm=>Cq.bind (xt a.1 (Zb.mk 1 [c.1] []) m) λd=>Cq.bind (wW a.1 a.2.1 [(Zj.mk 5 [] 1 0 0 [] [] [] [])] 3) λe=>Cq.bind (AX 11) λf=>Cq.bind (xt a.1 (Zb.mk 1 [c.1] []) f) λg=>Cq.bind (wW a.1 a.1.next [] 3) λh=>Cq.bind (wW a.1 a.2.1 [] 13) λi=>Cq.bind (yQ e.1 a.2.1) λb=>if ¬a.2.2=0 then(Cq.ret false)else(if ¬d.2.2=0 then(Cq.ret false)else(if ¬e.2=0 then(Cq.ret false)else(if ¬g.2.2=1 then(Cq.ret false)else(if ¬h.2=380 then(Cq.ret false)else(if ¬i.2=1 then(Cq.ret false)else(if ¬a.2.1=d.2.1 then(Cq.ret false)else(Cq.bind (AZ a.1 d.1) λj=>match j with|false=>(Cq.ret false)|true=>(if b.2=true then(if b.1.done=true then(if ¬b.1.χ=4 then(Cq.ret false)else(if ¬b.1.high=(-1)then(Cq.ret false)else(I8 c a)))else(Cq.ret false))else(Cq.ret false)))))))))
def Ut:Cq Zd:=
 Cq.ret (Zd.mk [] 1)
def F2(a:Int):Cq Int:=
 if a<0 then(Cq.ret (i64.wrap (0-(i64.wrap a))))else(Cq.ret (i64.wrap a))
def K6(b:Zf)(c:(Ŀ Za)):Cq (Ŀ Za):=
 Cq.bind (Fs b (λ_=>0) c) λa=>Cq.ret a.1
def Zta(a:(Ŀ Za)):Cq (Ŀ Za):=
 Cq.ret a
def Ztb(b:Zu)(c:(Ŀ Za))(a:Int)(d:(Fin 8->Int)):Cq (((Ŀ Za)×Int)⊕(Ŀ Za)):=
 Cq.Θ b.t a λi=>Cq.bind (ZX (i64.wrap (Int.tmod (Ε i 0) 4))) λe=>Cq.bind (ZX 1) λf=>Cq.bind (K6 e [(Za.mk f d)]) λg=>Cq.bind (Bg c g) λh=>Cq.ret (.inl (h,i64.wrap (a+1)))
def Q0(f:Zu)(g:Int)(d:Int):(Int×Int×(Fin 8->Int))->Cq (Fin 8->Int):=
 Cq.loop λh=>match h with|(b,a,c)=>if a<g then(if a<4 then(Cq.Θ f.t d λi=>Cq.ë (0<=i64.wrap (1+a)/\(i64.wrap (1+a))<5) (Cq.bind (F2 (Ε i (i64.wrap (1+a)))) λe=>Cq.ë ((i64.wrap (b+1))≠0) (Cq.ë (0<=a/\a<8) (Cq.ë (0<=a/\a<8) (Cq.ret (.inl (i64.wrap (b-(Ε (ζ c a.toNat (Int.tmod e (i64.wrap (b+1)))) a)),i64.wrap (a+1),ζ c a.toNat (Int.tmod e (i64.wrap (b+1))))))))))else(Cq.ret (.inr c)))else(Cq.ret (.inr c))
def Q1(b:Zu)(c:Int)(d:Int)(e:(Ŀ Za))(a:Int):Cq (((Ŀ Za)×Int)⊕(Ŀ Za)):=
 Cq.next (Q0 b c a (d,0,(λ_=>0))) λg=>match g with|f=>Ztb b e a f
def Zs9(c:Zu)(d:Int)(e:Int)(f:Int):((Ŀ Za)×Int)->Cq (Ŀ Za):=
 Cq.loop λg=>match g with|(b,a)=>if a<(c.t.length:Int)then(if a<f then(Q1 c d e b a)else(Cq.ret (.inr b)))else(Cq.ret (.inr b))
def A4(a:Zu)(b:Int)(c:Int)(d:Int):Cq (Ŀ Za):=
 Cq.next (Zs9 a b c d ([],0)) λf=>match f with|e=>Zta e
def J3(a:(Ŀ Ĳ))(d:(Ŀ Zo))(b:(Ŀ Zo))(c:Int):Cq Zx:=
 Cq.ret (Zx.mk a d b c)
def Ez(h:ZA)(f:Int)(e:(Ŀ Ĳ))(d:(Ŀ Zo))(b:(Ŀ Zo))(a:Int)(c:Int):Cq ((Int×(Ŀ Ĳ)×(Ŀ Zo)×(Ŀ Zo)×Int)⊕(((Ŀ Ĳ)×(Ŀ Zo)×(Ŀ Zo)×Int))):=
 Cq.Θ h.l f λi=>Cq.bind (A4 i (i64.wrap (Int.tmod h.n 4)) 2 3) λg=>if(Int.tmod f 3)=2 then(Cq.ë ((b++[(Zo.mk (i64.wrap (a+c)) g)]).length<=small) (Cq.ret (.inl (i64.wrap (f+1),e,d,(b++[(Zo.mk (i64.wrap (a+c)) g)]),i64.wrap ((i64.wrap (a+c))+1)))))else(Cq.ë ((d++[(Zo.mk (i64.wrap (a+c)) g)]).length<=small) (Cq.ret (.inl (i64.wrap (f+1),e,(d++[(Zo.mk (i64.wrap (a+c)) g)]),b,i64.wrap ((i64.wrap (a+c))+1)))))
def EA(a:ZA)(f:Int)(b:(Ŀ Ĳ))(e:(Ŀ Zo))(c:(Ŀ Zo))(d:Int):Cq ((Int×(Ŀ Ĳ)×(Ŀ Zo)×(Ŀ Zo)×Int)⊕(((Ŀ Ĳ)×(Ŀ Zo)×(Ŀ Zo)×Int))):=
 if 0<(a.iR.length:Int)then(Cq.ë ((a.iR.length:Int)≠0) (Cq.Θ a.iR (Int.tmod f (a.iR.length:Int)) λg=>Ez a f b e c d (i64.wrap (Int.tmod g 4))))else(Ez a f b e c d 0)
def Ztn(f:ZA):(Int×(Ŀ Ĳ)×(Ŀ Zo)×(Ŀ Zo)×Int)->Cq (((Ŀ Ĳ)×(Ŀ Zo)×(Ŀ Zo)×Int)):=
 Cq.loop λg=>match g with|(e,a,d,b,c)=>if e<(f.l.length:Int)then(if e<6 then(EA f e a d b c)else(Cq.ret (.inr (a,d,b,c))))else(Cq.ret (.inr (a,d,b,c)))
def FI(a:ZA):Cq Zx:=
 Cq.ë (0<=(0:Int)/\(0:Int)<=(i64.wrap (Int.tmod a.n 4))/\(i64.wrap (Int.tmod a.n 4))<=([Au,As,Ar].length:Int)) (Cq.next (Ztn a (0,(([Au,As,Ar].take (i64.wrap (Int.tmod a.n 4)).toNat).drop (0:Int).toNat),[],[],1)) λf=>match f with|(b,e,c,d)=>J3 b e c d)
def Ztr:Cq Bool:=
 Cq.ret true
def Ztq(b:(Ŀ Zo))(d:Int)(c:Int):Int->Cq (Bool⊕Unit):=
 Cq.loop λg=>match g with|a=>if a<(b.length:Int)then(Cq.Θ b a λh=>if h.id<1 then(Cq.ret (.inr (.inl false)))else(Cq.Θ b a λi=>if c<=i.id then(Cq.ret (.inr (.inl false)))else(if 0<a then(Cq.Θ b (i64.wrap (a-1)) λj=>Cq.Θ b a λk=>if k.id<=j.id then(Cq.ret (.inr (.inl false)))else(Cq.Θ b a λl=>Cq.bind (yH l.p d) λe=>if(!e)=true then(Cq.ret (.inr (.inl false)))else(Cq.ret (.inl (i64.wrap (a+1))))))else(Cq.Θ b a λm=>Cq.bind (yH m.p d) λf=>if(!f)=true then(Cq.ret (.inr (.inl false)))else(Cq.ret (.inl (i64.wrap (a+1))))))))else(Cq.ret (.inr (.inr ())))
def A6(b:(Ŀ Zo))(d:Int)(a:Int):Cq Bool:=
 if 12<(b.length:Int)then(Cq.ret false)else(Cq.next (Ztq b d a 0) λe=>match e with|.inl c=>Cq.ret c|.inr ()=>Ztr)
def Az(a:Int):Cq Bool:=
 if 65<=a then(if a<=90 then(Cq.ret true)else(if 97<=a then(Cq.ret (decide (a<=122)))else(Cq.ret false)))else(if 97<=a then(Cq.ret (decide (a<=122)))else(Cq.ret false))
def Ztp:Cq Bool:=
 Cq.ret true
def Zto(b:Ĳ):Int->Cq (Bool⊕Unit):=
 Cq.loop λd=>match d with|a=>if a<(b.size:Int)then(Cq.ë (0<=(a:Int)/\a<(b.size:Int)) (Cq.bind (Az (eO b a)) λc=>match c with|false=>(Cq.ë (0<=(a:Int)/\a<(b.size:Int)) (if 48<=(eO b a)then(Cq.ë (0<=(a:Int)/\a<(b.size:Int)) (if(eO b a)<=57 then(Cq.ret (.inl (i64.wrap (a+1))))else(Cq.ë (0<=(a:Int)/\a<(b.size:Int)) (if ¬(eO b a)=95 then(Cq.ret (.inr (.inl false)))else(Cq.ret (.inl (i64.wrap (a+1))))))))else(Cq.ë (0<=(a:Int)/\a<(b.size:Int)) (if ¬(eO b a)=95 then(Cq.ret (.inr (.inl false)))else(Cq.ret (.inl (i64.wrap (a+1))))))))|true=>(Cq.ret (.inl (i64.wrap (a+1))))))else(Cq.ret (.inr (.inr ())))
def Q3(b:Ĳ):Cq Bool:=
 Cq.next (Zto b 1) λc=>match c with|.inl a=>Cq.ret a|.inr ()=>Ztp
def FJ(a:Ĳ):Cq Bool:=
 if(a.size:Int)<1 then(Cq.ret false)else(if 12<(a.size:Int)then(Cq.ret false)else(Cq.ë (0<=(0:Int)/\0<(a.size:Int)) (Cq.bind (Az (eO a 0)) λb=>if(!b)=true then(Cq.ret false)else(Q3 a))))
def Zq5:Cq Bool:=
 Cq.ret true
def Zq6(a:Int):Cq (Int⊕(Bool⊕Unit)):=
 Cq.ret (.inl (i64.wrap (a+1)))
def Zq2(a:Zx)(c:Int):Int->Cq (Bool⊕Unit):=
 Cq.loop λd=>match d with|b=>if b<(a.ε.length:Int)then(Cq.Θ a.eqs c λe=>Cq.Θ a.ε b λf=>if e.id=f.id then(Cq.ret (.inr (.inl false)))else(Cq.ret (.inl (i64.wrap (b+1)))))else(Cq.ret (.inr (.inr ())))
def Zq1(b:Zx):Int->Cq (Bool⊕Unit):=
 Cq.loop λd=>match d with|a=>if a<(b.eqs.length:Int)then(Cq.next (Zq2 b a 0) λe=>match e with|.inl c=>Cq.ret (.inr (.inl c))|.inr ()=>Zq6 a)else(Cq.ret (.inr (.inr ())))
def Qt(a:Zx):Cq Bool:=
 Cq.next (Zq1 a 0) λc=>match c with|.inl b=>Cq.ret b|.inr ()=>Zq5
def Qu(b:Zx)(a:Int):Cq (Int⊕(Bool⊕Unit)):=
 Cq.Θ b.vars a λd=>Cq.bind (FJ d) λc=>if(!c)=true then(Cq.ret (.inr (.inl false)))else(Cq.ret (.inl (i64.wrap (a+1))))
def Zq4(b:Zx)(c:Int):Int->Cq (Bool⊕Unit):=
 Cq.loop λd=>match d with|a=>if a<c then(Cq.Θ b.vars c λe=>Cq.Θ b.vars a λf=>if e=f then(Cq.ret (.inr (.inl false)))else(Cq.ret (.inl (i64.wrap (a+1)))))else(Cq.ret (.inr (.inr ())))
def Zq3(a:Zx):Int->Cq (Bool⊕Unit):=
 Cq.loop λd=>match d with|b=>if b<(a.vars.length:Int)then(Cq.next (Zq4 a b 0) λe=>match e with|.inl c=>Cq.ret (.inr (.inl c))|.inr ()=>Qu a b)else(Cq.ret (.inr (.inr ())))
def Qv(a:Zx):Cq Bool:=
 Cq.next (Zq3 a 0) λc=>match c with|.inl b=>Cq.ret b|.inr ()=>Qt a
def E8(a:Zx):Cq Bool:=
 if 4<(a.vars.length:Int)then(Cq.ret false)else(if a.next<1 then(Cq.ret false)else(if 1000000<a.next then(Cq.ret false)else(Cq.bind (A6 a.eqs (a.vars.length:Int) a.next) λb=>match b with|false=>(Cq.ret false)|true=>(Cq.bind (A6 a.ε (a.vars.length:Int) a.next) λc=>if(!c)=true then(Cq.ret false)else(Qv a)))))
def Zq0(a:(Ŀ (Ŀ Za))):Cq ((Ŀ (Ŀ Za))):=
 Cq.ret a
def ZqZ(c:(Ŀ Zo)):((Ŀ (Ŀ Za))×Int)->Cq (((Ŀ (Ŀ Za)))):=
 Cq.loop λe=>match e with|(a,b)=>if b<(c.length:Int)then(Cq.Θ c b λd=>Cq.ë ((a++[d.p]).length<=small) (Cq.ret (.inl ((a++[d.p]),i64.wrap (b+1)))))else(Cq.ret (.inr a))
def E7(b:(Ŀ Zo)):Cq ((Ŀ (Ŀ Za))):=
 Cq.next (ZqZ b ([],0)) λc=>match c with|a=>Zq0 a
def Lw(a:Zx):Cq (Zb×Int):=
 Cq.bind (E8 a) λc=>if(!c)=true then(Cq.ret ((Zb.mk 0 [] []),320))else(Cq.bind (E7 a.eqs) λd=>Cq.bind (E7 a.ε) λe=>Cq.bind (E1 (if 1<(a.vars.length:Int)then(a.vars.length:Int)else 1) d e) λb=>Cq.ret (b.1,b.2))
def A8(d:Zt):Cq Zb:=
 Cq.bind (FI d.c) λa=>Cq.bind (Lw a) λb=>Cq.ret b.1
def Us:Cq ((Ŀ (Fin 8->Int))):=
 Cq.ret []
def EV:Cq ((Ŀ (Fin 8->Int))):=
 Cq.ret [ζ (ζ (ζ (ζ (ζ (ζ (ζ (ζ (λ_=>0) 0 1) 1 1) 2 1) 3 1) 4 1) 5 1) 6 1) 7 1]
def ZnR(a:(Ŀ (Fin 8->Int))):Cq ((Ŀ (Fin 8->Int))):=
 Cq.ret a
def ZnQ:((Ŀ (Fin 8->Int))×Int)->Cq (((Ŀ (Fin 8->Int)))):=
 Cq.loop λd=>match d with|(b,c)=>if 0<c then(Cq.bind (FF c (-1)) λa=>Cq.ë ((b++[a]).length<=small) (Cq.ret (.inl ((b++[a]),i64.wrap (c-1)))))else(Cq.ret (.inr b))
def EG:Cq ((Ŀ (Fin 8->Int))):=
 Cq.bind (EV) λa=>Cq.next (ZnQ (a,7)) λb=>match b with|c=>ZnR c
def Vd(a:Int)(b:Int):Cq Bool:=
 Cq.ë (0<=(u64.wrap b)) (Cq.ret (decide ((u8.wrap (BitVec.ofInt u8.bits (Int.fdiv a (2 ^ (min (u64.wrap b).toNat u8.bits))) &&& BitVec.ofInt u8.bits 1).toNat)=1)))
def Zjl(a:(Fin 8->Int)):Cq ((Ŀ (Fin 8->Int))):=
 Cq.bind (EG) λb=>Cq.ë (([a]++b).length<=small) (Cq.ret ([a]++b))
def Zjk(c:Int):(Int×(Fin 8->Int))->Cq (Fin 8->Int):=
 Cq.loop λe=>match e with|(a,b)=>if a<8 then(Cq.bind (Vd c a) λd=>if d=true then(Cq.ë (0<=a/\a<8) (Cq.ret (.inl (i64.wrap (a+1),ζ b a.toNat 1))))else(Cq.ret (.inl (i64.wrap (a+1),b))))else(Cq.ret (.inr b))
def Jc(a:Int):Cq ((Ŀ (Fin 8->Int))):=
 Cq.next (Zjk a (0,(λ_=>0))) λc=>match c with|b=>Zjl b
def EH(b:Int)(a:Bool):Cq ((Ŀ (Fin 8->Int))):=
 if a=true then(Cq.bind (EG) λc=>Cq.ret c)else(if(Int.tmod b 8)=4 then(Cq.ret [ζ (ζ (ζ (ζ (ζ (ζ (ζ (ζ (λ_=>0) 0 2) 1 3) 2 1) 3 1) 4 1) 5 1) 6 1) 7 1])else(if(Int.tmod b 8)=5 then(Cq.ret [ζ (ζ (ζ (ζ (ζ (ζ (ζ (ζ (λ_=>0) 0 1) 1 1) 2 0) 3 0) 4 0) 5 0) 6 0) 7 0,ζ (ζ (ζ (ζ (ζ (ζ (ζ (ζ (λ_=>0) 0 1) 1 0) 2 2) 3 1) 4 1) 5 1) 6 1) 7 1])else(Cq.bind (Jc (Int.tmod (u8.wrap (Int.tdiv b 8)) 16)) λd=>Cq.ret d)))
def xh(a:Int):Cq ((Ŀ (Fin 8->Int))):=
 if(Int.tmod a 8)=0 then(Cq.bind (Us) λb=>Cq.ret b)else(if(Int.tmod a 8)=1 then(Cq.bind (EV) λc=>Cq.ret c)else(if(Int.tmod a 8)=2 then(EH a (decide ((Int.tmod a 8)=2)))else(EH a (decide ((Int.tmod a 8)=3)))))
def EB(c:Zt)(a:Zc):Cq Zc:=
 if a.kind=3 then(Cq.bind (xh c.o) λb=>Cq.ret (Zc.mk a.kind a.p b))else(Cq.ret a)
def A7(a:Zt)(b:Zb):Cq Zc:=
 Cq.bind (Eg (i64.wrap (Int.tmod a.kind 12))) λc=>if c=true then(Cq.bind (A4 a.p (if 3<b.n then 3 else b.n) 2 3) λd=>EB a (Zc.mk (i64.wrap (Int.tmod a.kind 12)) d []))else(EB a (Zc.mk (i64.wrap (Int.tmod a.kind 12)) [] []))
def QZ(a:(Ŀ (Ŀ Za))):Cq ((Ŀ (Ŀ Za))):=
 Cq.ret a
def Zs8(g:(Ŀ Zu))(h:Int)(f:Int)(b:Int)(c:Int):((Ŀ (Ŀ Za))×Int)->Cq (((Ŀ (Ŀ Za)))):=
 Cq.loop λi=>match i with|(a,d)=>if d<(g.length:Int)then(if d<c then(Cq.Θ g d λj=>Cq.bind (A4 j h f b) λe=>Cq.ë ((a++[e]).length<=small) (Cq.ret (.inl ((a++[e]),i64.wrap (d+1)))))else(Cq.ret (.inr a)))else(Cq.ret (.inr a))
def Lv(e:(Ŀ Zu))(f:Int)(c:Int)(a:Int)(b:Int):Cq ((Ŀ (Ŀ Za))):=
 Cq.next (Zs8 e f c a b ([],0)) λg=>match g with|d=>QZ d
def Ztm(a:(Ŀ (Ŀ Za))):Cq ((Ŀ (Ŀ Za))):=
 Cq.ret a
def Ztl(b:(Ŀ (Ŀ Za)))(e:Int)(f:Int):((Ŀ (Ŀ Za))×Int)->Cq (((Ŀ (Ŀ Za)))):=
 Cq.loop λg=>match g with|(a,c)=>if c<f then(if(b.length:Int)=0 then(Cq.ë ((a++[[]]).length<=small) (Cq.ret (.inl ((a++[[]]),i64.wrap (c+1)))))else(Cq.ë ((b.length:Int)≠0) (Cq.Θ b (Int.tmod (i64.wrap (e+c)) (b.length:Int)) λd=>Cq.ë ((a++[d]).length<=small) (Cq.ret (.inl ((a++[d]),i64.wrap (c+1)))))))else(Cq.ret (.inr a))
def xl(b:(Ŀ (Ŀ Za)))(c:Int)(d:Int):Cq ((Ŀ (Ŀ Za))):=
 Cq.next (Ztl b c d ([],0)) λe=>match e with|a=>Ztm a
def tR(a:(Ŀ Int))(b:Int):Cq Int:=
 if(a.length:Int)=0 then(Cq.ret 0)else(Cq.ë ((a.length:Int)≠0) (Cq.Θ a (Int.tmod b (a.length:Int)) λc=>Cq.ret (i64.wrap c)))
def ZsT(d:va)(a:Zg)(b:Zg):Cq Zf:=
 if(Int.tmod d.k 8)=6 then Cq.fail else(Cq.bind (Av b a) λc=>Cq.ret c)
def Qz(a:va)(b:Zg)(c:Zg):Cq Zf:=
 Cq.bind (ud (i64.wrap (4611686018427387904+(i64.wrap a.k)))) λd=>if(Int.tmod a.k 8)=7 then Cq.fail else(ZsT a c b)
def xg(a:va):Cq Zf:=
 Cq.bind (ud (i64.wrap a.n)) λb=>Cq.bind (ud (i64.wrap a.d)) λc=>if a.d=0 then Cq.fail else(Qz a b c)
def Zu3(a:(Ŀ Zl)):Cq (Ŀ Zl):=
 Cq.ret a
def RA(d:(Ŀ Int))(e:Int):(Int×(Ŀ Zl))->Cq (Ŀ Zl):=
 Cq.loop λj=>match j with|(a,b)=>if a<2 then(Cq.bind (tR d (i64.wrap (e+a))) λf=>Cq.bind (xg (va.mk (i8.wrap f) 3 0)) λc=>Cq.bind (tR d e) λg=>Cq.bind (xg (va.mk (i8.wrap (i64.wrap (BitVec.ofInt i64.bits g &&& BitVec.ofInt i64.bits 7).toNat)) 2 0)) λh=>Cq.bind (vr c h) λi=>Cq.Θ b a λk=>Cq.ret (.inl (i64.wrap (a+1),b.set a.toNat (Zl.mk c i))))else(Cq.ret (.inr b))
def Zu4(c:(Ŀ Int))(d:Int)(a:(Ŀ Zl)):Cq (Ŀ Zl):=
 Cq.next (RA c d (0,a)) λe=>match e with|b=>Zu3 b
def RB:(Int×(Ŀ Zl))->Cq (Ŀ Zl):=
 Cq.loop λe=>match e with|(b,a)=>if b<8 then(Cq.bind (ZX 0) λc=>Cq.bind (ZX 0) λd=>Cq.Θ a b λf=>Cq.ret (.inl (i64.wrap (b+1),a.set b.toNat (Zl.mk c d))))else(Cq.ret (.inr a))
def Md(b:(Ŀ Int))(c:Int):Cq (Ŀ Zl):=
 Cq.next (RB (0,(List.replicate 8 (Zl.mk (Zf.mk (Zg.mk false []) (Zg.mk false [])) (Zf.mk (Zg.mk false []) (Zg.mk false [])))))) λd=>match d with|a=>Zu4 b c a
def ZlO(j:(Ŀ Za))(a:Int)(i:(Ŀ Za))(b:Int)(c:Int)(d:Int)(e:(Ŀ (Fin 8->Int)))(f:(Ŀ (Ŀ Za)))(g:(Ŀ Int))(h:(Ŀ (Ŀ Zl))):Cq Zj:=
 if a=8 then(Cq.ret (Zj.mk a j b c d e f g h))else(Cq.ret (Zj.mk a i b c d e f g h))
def I4(k:ZM)(o:(Ŀ Za))(n:Int):(Int×Int×(Ŀ Za)×Int×Int×Int×(Ŀ (Fin 8->Int))×(Ŀ (Ŀ Za))×(Ŀ Int)×(Ŀ (Ŀ Zl)))->Cq ((Int×(Ŀ Za)×Int×Int×Int×(Ŀ (Fin 8->Int))×(Ŀ (Ŀ Za))×(Ŀ Int)×(Ŀ (Ŀ Zl)))):=
 Cq.loop λp=>match p with|(b,a,l,e,f,g,h,i,c,d)=>if b<(i64.wrap (BitVec.ofInt i64.bits (i64.wrap (BitVec.ofInt i64.bits n &&& BitVec.ofInt i64.bits 7).toNat) &&& BitVec.ofInt i64.bits 3).toNat)then(Cq.bind (Md k.v b) λj=>Cq.ë ((d++[j]).length<=small) (if a=8 then(Cq.bind (tR k.v b) λm=>Cq.ë ((c++[i64.wrap ((Int.tmod (i64.wrap (BitVec.ofInt i64.bits m &&& BitVec.ofInt i64.bits 127).toNat) 3)-1)]).length<=small) (Cq.ret (.inl (i64.wrap (b+1),a,o,e,f,g,h,i,(c++[i64.wrap ((Int.tmod (i64.wrap (BitVec.ofInt i64.bits m &&& BitVec.ofInt i64.bits 127).toNat) 3)-1)]),(d++[j])))))else(Cq.ret (.inl (i64.wrap (b+1),a,l,e,f,g,h,i,c,(d++[j]))))))else(Cq.ret (.inr (a,l,e,f,g,h,i,c,d)))
def Ji(a:ZM)(n:(Ŀ (Ŀ Za)))(o:(Ŀ Za))(b:Int)(d:Bool):Cq Zj:=
 if d=true then(Cq.next (I4 a o b (0,i64.wrap (1+(i64.wrap (Int.tmod a.kind 13))),[],0,0,0,[],[],[],[])) λp=>match p with|(c,e,f,g,h,i,j,k,l)=>ZlO o c e f g h i j k l)else(if(i64.wrap (1+(i64.wrap (Int.tmod a.kind 13))))=11 then(Cq.bind (xl n 1 (i64.wrap (BitVec.ofInt i64.bits (i64.wrap (BitVec.ofInt i64.bits b &&& BitVec.ofInt i64.bits 7).toNat) &&& BitVec.ofInt i64.bits 3).toNat)) λm=>Cq.ret (Zj.mk (i64.wrap (1+(i64.wrap (Int.tmod a.kind 13)))) [] 0 0 0 [] m [] []))else(if(i64.wrap (1+(i64.wrap (Int.tmod a.kind 13))))=12 then(if(i64.wrap (1+(i64.wrap (Int.tmod a.kind 13))))=12 then(Cq.ret (Zj.mk (i64.wrap (1+(i64.wrap (Int.tmod a.kind 13)))) [] (i64.wrap (BitVec.ofInt i64.bits b &&& BitVec.ofInt i64.bits 7).toNat) 0 0 [] [] [] []))else(Cq.ret (Zj.mk (i64.wrap (1+(i64.wrap (Int.tmod a.kind 13)))) [] 0 0 0 [] [] [] [])))else(if(i64.wrap (1+(i64.wrap (Int.tmod a.kind 13))))=13 then(Cq.ret (Zj.mk (i64.wrap (1+(i64.wrap (Int.tmod a.kind 13)))) [] (i64.wrap (BitVec.ofInt i64.bits b &&& BitVec.ofInt i64.bits 7).toNat) 0 0 [] [] [] []))else(Cq.ret (Zj.mk (i64.wrap (1+(i64.wrap (Int.tmod a.kind 13)))) [] 0 0 0 [] [] [] [])))))
def wQ(a:ZM)(c:(Ŀ (Ŀ Za)))(e:(Ŀ Za))(b:Int)(d:Bool):Cq Zj:=
 if d=true then(Cq.ret (Zj.mk (i64.wrap (1+(i64.wrap (Int.tmod a.kind 13)))) e 0 0 0 [] [] [] []))else(if(i64.wrap (1+(i64.wrap (Int.tmod a.kind 13))))=4 then(Cq.bind (tR a.v 2) λg=>Cq.bind (xh (u8.wrap g)) λh=>Cq.bind (xl c 1 (i64.wrap (BitVec.ofInt i64.bits (i64.wrap (BitVec.ofInt i64.bits b &&& BitVec.ofInt i64.bits 7).toNat) &&& BitVec.ofInt i64.bits 3).toNat)) λi=>Cq.ret (Zj.mk (i64.wrap (1+(i64.wrap (Int.tmod a.kind 13)))) [] 0 0 0 h i [] []))else(if(i64.wrap (1+(i64.wrap (Int.tmod a.kind 13))))=5 then(Cq.bind (tR a.v 3) λf=>Cq.ret (Zj.mk (i64.wrap (1+(i64.wrap (Int.tmod a.kind 13)))) [] (i64.wrap (BitVec.ofInt i64.bits f &&& BitVec.ofInt i64.bits 15).toNat) (i64.wrap ((i64.wrap (BitVec.ofInt i64.bits (i64.wrap (BitVec.ofInt i64.bits b &&& BitVec.ofInt i64.bits 7).toNat) &&& BitVec.ofInt i64.bits 3).toNat)-1)) 0 [] [] [] []))else(if(i64.wrap (1+(i64.wrap (Int.tmod a.kind 13))))=6 then(Cq.ret (Zj.mk (i64.wrap (1+(i64.wrap (Int.tmod a.kind 13)))) [] (i64.wrap (BitVec.ofInt i64.bits b &&& BitVec.ofInt i64.bits 7).toNat) (i64.wrap ((i64.wrap (BitVec.ofInt i64.bits b &&& BitVec.ofInt i64.bits 7).toNat)-(i64.wrap (Int.tdiv (i64.wrap (BitVec.ofInt i64.bits b &&& BitVec.ofInt i64.bits 7).toNat) 3)))) (i64.wrap (Int.tdiv (i64.wrap (BitVec.ofInt i64.bits b &&& BitVec.ofInt i64.bits 7).toNat) 2)) [] [] [] []))else(if(i64.wrap (1+(i64.wrap (Int.tmod a.kind 13))))=7 then(Ji a c e b (decide ((i64.wrap (1+(i64.wrap (Int.tmod a.kind 13))))=7)))else(Ji a c e b (decide ((i64.wrap (1+(i64.wrap (Int.tmod a.kind 13))))=8)))))))
def Ec(a:ZM):Cq Zj:=
 Cq.bind (Lv a.l 2 2 3 6) λb=>Cq.bind (xl b 2 1) λe=>Cq.Θ e 0 λd=>Cq.bind (tR a.v 1) λc=>if(i64.wrap (1+(i64.wrap (Int.tmod a.kind 13))))=1 then(wQ a b d c (decide ((i64.wrap (1+(i64.wrap (Int.tmod a.kind 13))))=1)))else(if(i64.wrap (1+(i64.wrap (Int.tmod a.kind 13))))=2 then(wQ a b d c (decide ((i64.wrap (1+(i64.wrap (Int.tmod a.kind 13))))=2)))else(wQ a b d c (decide ((i64.wrap (1+(i64.wrap (Int.tmod a.kind 13))))=10))))
def ZpF(a:(Ŀ Zj)):Cq (Ŀ Zj):=
 Cq.ret a
def P5(d:Zt):((Ŀ Zj)×Int)->Cq (Ŀ Zj):=
 Cq.loop λe=>match e with|(a,b)=>if b<(d.l.length:Int)then(if b<4 then(Cq.Θ d.l b λf=>Cq.bind (Ec f) λc=>Cq.ë ((a++[c]).length<=small) (Cq.ret (.inl ((a++[c]),i64.wrap (b+1)))))else(Cq.ret (.inr a)))else(Cq.ret (.inr a))
def AA(a:Zt):Cq (Ŀ Zj):=
 Cq.next (P5 a ([],0)) λb=>match b with|c=>ZpF c
def KG(d:Zd)(c:Zt):Cq (Zd×Int×Int):=
 if(Int.tmod c.fX 2)=0 then(Cq.bind (A8 c) λe=>Cq.bind (A7 c e) λf=>Cq.bind (xt d e f) λa=>if ¬a.2.2=0 then(Cq.ret (d,a.2.1,a.2.2))else(Cq.ret (a.1,a.2.1,a.2.2)))else(Cq.bind (AA c) λg=>Cq.bind (wW d c.id g c.Μ) λb=>if ¬b.2=0 then(Cq.ret (d,0,b.2))else(Cq.ret (b.1,0,b.2)))
def Zts:Cq (Ze×Bool):=
 Cq.ret ((Ze.mk 0 (Zb.mk 0 [] []) (Zc.mk 0 [] []) 0 0 0 false),false)
def J4(c:Zd)(d:Int):(Int×Ze)->Cq ((Ze×Bool)⊕Ze):=
 Cq.loop λe=>match e with|(a,b)=>if a<(c.t.length:Int)then(Cq.Θ c.t a λf=>if f.id=d then(Cq.Θ c.t a λg=>Cq.ret (.inr (.inl (g,true))))else(Cq.ret (.inl (i64.wrap (a+1),b))))else(Cq.ret (.inr (.inr b)))
def Fy(c:Zd)(a:Int):Cq (Ze×Bool):=
 Cq.next (J4 c a (0,(Ze.mk 0 (Zb.mk 0 [] []) (Zc.mk 0 [] []) 0 0 0 false))) λd=>match d with|.inl b=>Cq.ret b|.inr e=>Zts
def Ztk:Cq Bool:=
 Cq.ret true
def Ztj(b:(Ŀ (Ŀ Za)))(d:Int):Int->Cq (Bool⊕Unit):=
 Cq.loop λe=>match e with|a=>if a<(b.length:Int)then(Cq.Θ b a λf=>Cq.bind (wV f d 64) λc=>if(!c)=true then(Cq.ret (.inr (.inl false)))else(Cq.ret (.inl (i64.wrap (a+1)))))else(Cq.ret (.inr (.inr ())))
def FH(b:(Ŀ (Ŀ Za)))(c:Int):Cq Bool:=
 Cq.next (Ztj b c 0) λd=>match d with|.inl a=>Cq.ret a|.inr ()=>Ztk
def Fw(a:Int):Cq Bool:=
 if 0<=a then(Cq.ret (decide (a<=1000000)))else(Cq.ret false)
def JL(a:Zl):Cq Bool:=
 Cq.bind (tY a.lo) λb=>match b with|false=>(Cq.ret false)|true=>(Cq.bind (tY a.hi) λc=>match c with|false=>(Cq.ret false)|true=>(Cq.bind (vt a.lo a.hi) λd=>Cq.ret (decide (d<=0))))
def vl(c:Zf):Cq Bool:=
 Cq.bind (ZX 0) λa=>Cq.bind (A3 c a) λb=>Cq.ret b
def ZqL:Cq Bool:=
 Cq.ret true
def ZqM(a:Int):Cq (Int⊕(Bool⊕Unit)):=
 Cq.ret (.inl (i64.wrap (a+1)))
def Qs(b:(Ŀ (Ŀ Zl)))(g:Int)(c:Int):Int->Cq (Bool⊕Unit):=
 Cq.loop λh=>match h with|a=>if a<8 then(Cq.Θ b c λi=>Cq.Θ i a λj=>Cq.bind (JL j) λd=>match d with|false=>(Cq.ret (.inr (.inl false)))|true=>(if g<=a then(Cq.Θ b c λk=>Cq.Θ k a λl=>Cq.bind (vl l.lo) λe=>match e with|false=>(Cq.ret (.inr (.inl false)))|true=>(Cq.Θ b c λm=>Cq.Θ m a λn=>Cq.bind (vl n.hi) λf=>if(!f)=true then(Cq.ret (.inr (.inl false)))else(Cq.ret (.inl (i64.wrap (a+1))))))else(Cq.ret (.inl (i64.wrap (a+1))))))else(Cq.ret (.inr (.inr ())))
def ZqK(b:(Ŀ (Ŀ Zl)))(d:Int):Int->Cq (Bool⊕Unit):=
 Cq.loop λe=>match e with|a=>if a<(b.length:Int)then(Cq.next (Qs b d a 0) λf=>match f with|.inl c=>Cq.ret (.inr (.inl c))|.inr ()=>ZqM a)else(Cq.ret (.inr (.inr ())))
def Fv(a:(Ŀ (Ŀ Zl)))(c:Int):Cq Bool:=
 if 64<(a.length:Int)then Cq.fail else(Cq.next (ZqK a c 0) λd=>match d with|.inl b=>Cq.ret b|.inr ()=>ZqL)
def ZqO:Cq Bool:=
 Cq.ret true
def ZqN(b:(Ŀ Int)):Int->Cq (Bool⊕Unit):=
 Cq.loop λc=>match c with|a=>if a<(b.length:Int)then(Cq.Θ b a λd=>if d<(-1)then(Cq.ret (.inr (.inl false)))else(Cq.Θ b a λe=>if 1<e then Cq.fail else(Cq.ret (.inl (i64.wrap (a+1))))))else(Cq.ret (.inr (.inr ())))
def K8(b:(Ŀ Int)):Cq Bool:=
 Cq.next (ZqN b 0) λc=>match c with|.inl a=>Cq.ret a|.inr ()=>ZqO
def Er(a:Zj)(c:Bool):Cq Bool:=
 if c=true then(if(a.p.length:Int)=0 then(if(a.l.length:Int)=0 then(if(a.o.length:Int)=0 then(if(a.s.length:Int)=0 then(if(a.b.length:Int)=0 then(if a.d=0 then(if a.r=0 then(Cq.bind (Fw a.n) λe=>Cq.ret e)else(Cq.ret false))else(Cq.ret false))else(Cq.ret false))else(Cq.ret false))else(Cq.ret false))else(Cq.ret false))else(Cq.ret false))else(Cq.ret false)
def Es(e:Zb)(a:Zj)(c:Bool)(h:Bool)(f:Bool):Cq Bool:=
 if f=true then(if(a.p.length:Int)=0 then(if(a.l.length:Int)=0 then(if(a.o.length:Int)=0 then(if(a.s.length:Int)=0 then(if(a.b.length:Int)=0 then(Cq.ret c)else(Cq.ret false))else(Cq.ret false))else(Cq.ret false))else(Cq.ret false))else(Cq.ret false))else(if a.kind=4 then(if(a.p.length:Int)=0 then(if(a.s.length:Int)=0 then(if(a.b.length:Int)=0 then(if c=true then(Cq.bind (yL a.o) λi=>match i with|false=>(Cq.ret false)|true=>(if(a.l.length:Int)<=64 then(Cq.bind (FH a.l e.n) λj=>Cq.ret j)else(Cq.ret false)))else(Cq.ret false))else(Cq.ret false))else(Cq.ret false))else(Cq.ret false))else(if a.kind=5 then(if(a.p.length:Int)=0 then(if(a.l.length:Int)=0 then(if(a.o.length:Int)=0 then(if(a.s.length:Int)=0 then(if(a.b.length:Int)=0 then(if a.r=0 then(if(-1)<=a.d then(if a.d<=e.n then(Cq.bind (Fw a.n) λk=>Cq.ret k)else(Cq.ret false))else(Cq.ret false))else(Cq.ret false))else(Cq.ret false))else(Cq.ret false))else(Cq.ret false))else(Cq.ret false))else(Cq.ret false))else(if a.kind=6 then(if(a.p.length:Int)=0 then(if(a.l.length:Int)=0 then(if(a.o.length:Int)=0 then(if(a.s.length:Int)=0 then(if(a.b.length:Int)=0 then(Cq.bind (Fw a.n) λm=>match m with|false=>(Cq.ret false)|true=>(if 0<=a.r then(if a.r<=a.d then(Cq.ret (decide (a.d<=a.n)))else(Cq.ret false))else(Cq.ret false)))else(Cq.ret false))else(Cq.ret false))else(Cq.ret false))else(Cq.ret false))else(Cq.ret false))else(if a.kind=7 then(if(a.p.length:Int)=0 then(if(a.l.length:Int)=0 then(if(a.o.length:Int)=0 then(if(a.s.length:Int)=0 then(if c=true then(Cq.bind (Fv a.b e.n) λq=>Cq.ret q)else(Cq.ret false))else(Cq.ret false))else(Cq.ret false))else(Cq.ret false))else(Cq.ret false))else(if a.kind=8 then(if h=true then(if(a.l.length:Int)=0 then(if(a.o.length:Int)=0 then(if c=true then(Cq.bind (Fv a.b e.n) λt=>match t with|false=>(Cq.ret false)|true=>(if(a.s.length:Int)=(a.b.length:Int)then(Cq.bind (K8 a.s) λu=>Cq.ret u)else(Cq.ret false)))else(Cq.ret false))else(Cq.ret false))else(Cq.ret false))else(Cq.ret false))else(if a.kind=11 then(if(a.p.length:Int)=0 then(if(a.o.length:Int)=0 then(if(a.s.length:Int)=0 then(if(a.b.length:Int)=0 then(if c=true then(if(a.l.length:Int)<=64 then(Cq.bind (FH a.l e.n) λg=>Cq.ret g)else(Cq.ret false))else(Cq.ret false))else(Cq.ret false))else(Cq.ret false))else(Cq.ret false))else(Cq.ret false))else(if a.kind=12 then(Er a (decide (a.kind=12)))else(Er a (decide (a.kind=13))))))))))
def Ao(d:Zb)(a:Zj)(c:Bool)(e:Bool)(f:Bool):Cq Bool:=
 if f=true then(if e=true then(if(a.l.length:Int)=0 then(if(a.o.length:Int)=0 then(if(a.s.length:Int)=0 then(if(a.b.length:Int)=0 then(Cq.ret c)else(Cq.ret false))else(Cq.ret false))else(Cq.ret false))else(Cq.ret false))else(Cq.ret false))else(if a.kind=3 then(Es d a c e (decide (a.kind=3)))else(Es d a c e (decide (a.kind=9))))
def wO(b:Zb)(a:Zj)(c:Bool):Cq Bool:=
 Cq.bind (wV a.p b.n 12) λd=>if a.kind=1 then(Ao b a c d (decide (a.kind=1)))else(if a.kind=2 then(Ao b a c d (decide (a.kind=2)))else(Ao b a c d (decide (a.kind=10))))
def Fu(b:Zb)(a:Zj):Cq Bool:=
 Cq.bind (AL b) λc=>if(!c)=true then Cq.fail else(if a.n=0 then(if a.d=0 then(wO b a (decide (a.r=0)))else(wO b a false))else(wO b a false))
def P2(a:Zj)(c:Bool)(b:Bool):Cq (Int×Int):=
 if b=true then(Cq.ret (0,0))else(if c=true then(if a.kind=13 then(Cq.ret (a.n,(-1)))else(Cq.ret (0,(-1))))else(Cq.ret (0,(-1))))
def Ea(a:Zj)(c:Bool)(d:Bool):Cq (Int×Int):=
 if d=true then(Cq.ret ((a.b.length:Int),(a.b.length:Int)))else(if c=true then(P2 a c (decide (a.kind=9)))else(P2 a c false))
def Jq(a:Zj)(b:Bool)(c:Bool):Cq (Int×Int):=
 if c=true then(Cq.ret (a.r,a.r))else(if b=true then(if a.kind=7 then(Ea a b true)else(Ea a b (decide (a.kind=8))))else(Ea a b false))
def Eb(a:Zj)(b:Bool)(c:Bool):Cq (Int×Int):=
 if c=true then(Cq.ret (0,a.n))else(if b=true then(Jq a b (decide (a.kind=6)))else(Jq a b false))
def Jr(a:Zj)(d:Bool)(b:Bool)(c:Bool):Cq (Int×Int):=
 if c=true then(Cq.ret (a.n,a.n))else(if d=true then(Eb a b (decide (a.kind=12)))else(if b=true then(Eb a b (decide (a.kind=12)))else(Eb a b false)))
def yq(a:Zj)(b:Bool)(c:Bool):Cq (Int×Int):=
 if b=true then(Jr a b c (decide (a.kind=6)))else(Jr a b c false)
def Ko(a:Zc)(b:Zj):Cq (Int×Int):=
 if a.kind=8 then(yq b (decide (a.kind=5)) true)else(yq b (decide (a.kind=5)) (decide (a.kind=6)))
def Zs0:Cq Bool:=
 Cq.ret true
def ZsZ(b:(Ŀ (Fin 8->Int)))(c:(Ŀ (Fin 8->Int))):Int->Cq (Bool⊕Unit):=
 Cq.loop λd=>match d with|a=>if a<(b.length:Int)then(Cq.Θ b a λe=>Cq.Θ c a λf=>if ¬e=f then(Cq.ret (.inr (.inl false)))else(Cq.ret (.inl (i64.wrap (a+1)))))else(Cq.ret (.inr (.inr ())))
def FD(a:(Ŀ (Fin 8->Int)))(b:(Ŀ (Fin 8->Int))):Cq Bool:=
 if ¬(a.length:Int)=(b.length:Int)then(Cq.ret false)else(Cq.next (ZsZ a b 0) λd=>match d with|.inl c=>Cq.ret c|.inr ()=>Zs0)
def J2(d:Zb)(b:Zc)(a:Zj):Cq Bool:=
 Cq.bind (tQ b.p a.p) λc=>if b.kind=1 then(if a.kind=1 then(Cq.ret c)else(if a.kind=2 then(Cq.ret c)else(Cq.ret false)))else(if b.kind=2 then(if a.kind=3 then(Cq.ret true)else(if(d.ε.length:Int)=0 then(if a.kind=2 then(Cq.bind (ZX 1) λe=>Cq.bind (Eo e) λf=>Cq.bind (tQ a.p f) λg=>Cq.ret g)else(Cq.ret false))else(Cq.ret false)))else(if b.kind=3 then(if a.kind=4 then(Cq.bind (FD b.o a.o) λh=>Cq.ret h)else(Cq.ret false))else(if b.kind=4 then(Cq.ret (decide (a.kind=5)))else(if b.kind=5 then(Cq.ret (decide (a.kind=6)))else(if b.kind=6 then(Cq.ret (decide (a.kind=7)))else(if b.kind=7 then(if a.kind=8 then(Cq.ret c)else(Cq.ret false))else(if b.kind=8 then(if a.kind=9 then(Cq.ret true)else(if a.kind=6 then(Cq.ret true)else(if a.kind=13 then(Cq.ret (decide (1<=a.n)))else(Cq.ret false))))else(if b.kind=9 then(if a.kind=10 then(Cq.ret c)else(Cq.ret false))else(if b.kind=10 then(Cq.ret (decide (a.kind=11)))else(Cq.ret false))))))))))
def Ef(b:Int×Int)(a:Ze):Cq Ze:=
 if 0<=b.2 then(if a.high<0 then(Cq.ret (Ze.mk a.id a.k a.q a.χ (if a.low<b.1 then b.1 else a.low) b.2 a.done))else(if b.2<a.high then(Cq.ret (Ze.mk a.id a.k a.q a.χ (if a.low<b.1 then b.1 else a.low) b.2 a.done))else(Cq.ret (Ze.mk a.id a.k a.q a.χ (if a.low<b.1 then b.1 else a.low) a.high a.done))))else(Cq.ret (Ze.mk a.id a.k a.q a.χ (if a.low<b.1 then b.1 else a.low) a.high a.done))
def J5(a:Ze)(c:Zj):Cq Ze:=
 Cq.bind (Ko a.q c) λb=>if a.done=true then(Ef b (Ze.mk a.id a.k a.q a.χ a.low a.high true))else(Cq.bind (J2 a.k a.q c) λd=>Ef b (Ze.mk a.id a.k a.q a.χ a.low a.high d))
def Zrb(b:(Ŀ Ze))(a:Int):Cq (Zd×Int):=
 Cq.ret ((Zd.mk b a),0)
def Ev(c:Int)(b:(Ŀ Ze))(a:Int)(d:Ze):Cq ((Int×(Ŀ Ze)×Int)⊕(((Ŀ Ze)×Int))):=
 Cq.ë ((b++[d]).length<=small) (Cq.ret (.inl (i64.wrap (c+1),(b++[d]),a)))
def JO(f:Int)(d:Int)(c:Int)(e:(Ŀ Ze))(b:Int)(a:Ze):Cq ((Int×(Ŀ Ze)×Int)⊕(((Ŀ Ze)×Int))):=
 if a.id=f then(Ev c e b (Ze.mk a.id a.k a.q (if a.χ<(i64.wrap (d+1))then(i64.wrap (d+1))else a.χ) a.low a.high a.done))else(Ev c e b a)
def Qh(c:(Ŀ Zj))(d:Ze×Bool):(Int×Ze)->Cq Ze:=
 Cq.loop λg=>match g with|(a,b)=>if a<(c.length:Int)then(Cq.bind (Ap b.k d.1.k) λe=>if e=true then(Cq.Θ c a λh=>Cq.bind (J5 b h) λf=>Cq.ret (.inl (i64.wrap (a+1),f)))else(Cq.ret (.inr b)))else(Cq.ret (.inr b))
def Zq9(c:Zd)(e:Int)(f:(Ŀ Zj))(g:Int)(h:Ze×Bool):(Int×(Ŀ Ze)×Int)->Cq (((Ŀ Ze)×Int)):=
 Cq.loop λj=>match j with|(b,d,a)=>if b<(c.t.length:Int)then(Cq.Θ c.t b λk=>Cq.next (Qh f h (0,k)) λl=>match l with|i=>JO e g b d a i)else(Cq.ret (.inr (d,a)))
def Zrc(b:Zd)(c:Int)(d:(Ŀ Zj))(e:Int)(g:Ze×Bool):Cq (Zd×Int):=
 Cq.next (Zq9 b c d e g (0,[],b.next)) λh=>match h with|(f,a)=>Zrb f a
def Zra(b:(Ŀ Zj))(d:Ze×Bool):(Int×Zd)->Cq ((Zd×Int)⊕Zd):=
 Cq.loop λf=>match f with|(a,c)=>if a<(b.length:Int)then(Cq.Θ b a λg=>Cq.bind (Fu d.1.k g) λe=>if(!e)=true then(Cq.ret (.inr (.inl ((Zd.mk [] 0),1))))else(Cq.ret (.inl (i64.wrap (a+1),c))))else(Cq.ret (.inr (.inr c)))
def Qi(c:Zd)(d:Int)(a:(Ŀ Zj))(e:Int)(b:Ze×Bool)(f:Zd):Cq (Zd×Int):=
 Cq.next (Zra a b (0,f)) λh=>match h with|.inl g=>Cq.ret g|.inr i=>Zrc c d a e b
def KQ(b:Zd)(c:Int)(e:(Ŀ Zj))(a:Int):Cq (Zd×Int):=
 Cq.bind (Fy b c) λd=>if(!d.2)=true then(Cq.ret ((Zd.mk [] 0),380))else(if a<0 then(Cq.ret ((Zd.mk [] 0),1))else(if 12<a then(Cq.ret ((Zd.mk [] 0),1))else(Qi b c e a d (Zd.mk [] 0))))
def Lx(f:Zd)(c:Zt):Cq (Zd×Int×Int):=
 if(Int.tmod c.fX 2)=0 then(Cq.bind (A8 c) λg=>Cq.bind (A7 c g) λh=>Cq.bind (AN 5 f g h) λa=>if ¬a.e=0 then(Cq.ret (f,0,a.e))else(Cq.ret (a.b,a.id,0)))else(Cq.bind (AA c) λi=>Cq.bind (KQ f c.id i c.Μ) λd=>if ¬d.2=0 then(Cq.ret (f,0,d.2))else(Cq.ret (d.1,0,0)))
def Zre(a:(Ŀ Zc)):Cq (Ŀ Zc):=
 Cq.ret a
def Zrd(e:Ze)(b:(Ŀ Zc)):((Ŀ Zc)×Int)->Cq (Ŀ Zc):=
 Cq.loop λf=>match f with|(a,d)=>if d<(b.length:Int)then(Cq.Θ b d λg=>Cq.bind (AO e.k g) λc=>Cq.ë ((a++[c.q]).length<=small) (Cq.ret (.inl ((a++[c.q]),i64.wrap (d+1)))))else(Cq.ret (.inr a))
def KR(b:Ze):Cq (Ŀ Zc):=
 Cq.bind (Fx b.q) λc=>Cq.next (Zrd b c ([],0)) λd=>match d with|a=>Zre a
def Ztu:Cq Bool:=
 Cq.ret true
def Ztt(d:Zd)(e:Ze)(a:(Ŀ Zc)):Int->Cq (Bool⊕Unit):=
 Cq.loop λf=>match f with|c=>if c<(a.length:Int)then(Cq.Θ a c λg=>Cq.bind (Gh d e.k g) λb=>if b<0 then(Cq.ret (.inr (.inl false)))else(Cq.Θ d.t b λh=>if(!h.done)=true then(Cq.ret (.inr (.inl false)))else(Cq.ret (.inl (i64.wrap (c+1))))))else(Cq.ret (.inr (.inr ())))
def Q4(d:Zd)(a:Ze):Cq Bool:=
 Cq.bind (KR a) λb=>Cq.next (Ztt d a b 0) λe=>match e with|.inl c=>Cq.ret c|.inr ()=>Ztu
def Ly(b:Zd)(a:Ze):Cq Bool:=
 if a.done=true then(Cq.ret false)else(if 12<a.χ then(Cq.ret false)else(Q4 b a))
def Zrh(a:(Ŀ Int)):Cq (Ŀ Int):=
 Cq.ret a
def Zri(b:Int)(a:(Ŀ Int)):Cq (((Ŀ Int)×Int)⊕(Ŀ Int)):=
 Cq.ret (.inl (a,i64.wrap (b+1)))
def JE(e:Zd)(a:(Ŀ Int))(c:Int)(b:Bool):Cq (((Ŀ Int)×Int)⊕(Ŀ Int)):=
 if b=true then(Cq.Θ e.t c λd=>Cq.ë ((a++[d.id]).length<=small) (Cq.ret (.inl ((a++[d.id]),i64.wrap (c+1)))))else(Cq.ret (.inl (a,i64.wrap (c+1))))
def Zrg(b:Zd)(e:Int):((Ŀ Int)×Int)->Cq (Ŀ Int):=
 Cq.loop λf=>match f with|(a,c)=>if c<(b.t.length:Int)then(Cq.Θ b.t c λg=>if g.χ=e then(Cq.Θ b.t c λh=>Cq.bind (Ly b h) λd=>JE b a c d)else(JE b a c false))else(Cq.ret (.inr a))
def Zrf(d:Zd):((Ŀ Int)×Int)->Cq (Ŀ Int):=
 Cq.loop λe=>match e with|(a,b)=>if b<=12 then(Cq.next (Zrg d b (a,0)) λf=>match f with|c=>Zri b c)else(Cq.ret (.inr a))
def KS(b:Zd):Cq (Ŀ Int):=
 Cq.next (Zrf b ([],0)) λc=>match c with|a=>Zrh a
def Zog:Cq Bool:=
 Cq.ret true
def Zof(b:(Ŀ Int))(c:(Ŀ Int)):Int->Cq (Bool⊕Unit):=
 Cq.loop λd=>match d with|a=>if a<(b.length:Int)then(Cq.Θ b a λe=>Cq.Θ c a λf=>if ¬e=f then(Cq.ret (.inr (.inl false)))else(Cq.ret (.inl (i64.wrap (a+1)))))else(Cq.ret (.inr (.inr ())))
def Kp(a:(Ŀ Int))(b:(Ŀ Int)):Cq Bool:=
 if ¬(a.length:Int)=(b.length:Int)then(Cq.ret false)else(Cq.next (Zof a b 0) λd=>match d with|.inl c=>Cq.ret c|.inr ()=>Zog)
def Zd8(a:Int)(d:Bool)(e:Zd)(f:Zd):Cq Bool:=
 Cq.bind (yQ e a) λb=>Cq.bind (Fy f a) λc=>if b.2=c.2 then(Cq.bind (Ew b.1 c.1) λg=>match g with|false=>(Cq.ret false)|true=>(Cq.ret d))else(Cq.ret false)
def O5(d:(Ŀ Zt))(c:Int)(j:Zd)(k:Zd):Cq ((Int×Zd×Zd)⊕(Bool⊕(Zd×Zd))):=
 Cq.Θ d c λl=>Cq.bind (KG j l) λb=>Cq.Θ d c λm=>Cq.bind (Lx k m) λa=>if ¬b.2.1=a.2.1 then(Cq.ret (.inr (.inl false)))else(if ¬b.2.2=a.2.2 then(Cq.ret (.inr (.inl false)))else(Cq.bind (AZ b.1 a.1) λe=>match e with|false=>(Cq.ret (.inr (.inl false)))|true=>(Cq.bind (yE b.1) λf=>match f with|false=>(Cq.ret (.inr (.inl false)))|true=>(Cq.bind (ER b.1) λg=>Cq.bind (KS a.1) λh=>Cq.bind (Kp g h) λi=>if(!i)=true then(Cq.ret (.inr (.inl false)))else(Cq.ret (.inl (i64.wrap (c+1),b.1,a.1)))))))
def I2(b:(Ŀ Zt)):(Int×Zd×Zd)->Cq (Bool⊕(Zd×Zd)):=
 Cq.loop λe=>match e with|(a,c,d)=>if a<(b.length:Int)then(if a<6 then(O5 b a c d)else(Cq.ret (.inr (.inr (c,d)))))else(Cq.ret (.inr (.inr (c,d))))
def I0(b:(Ŀ Zt))(c:Int):Cq Bool:=
 Cq.bind (JB) λa=>if(!a)=true then(Cq.ret false)else(Cq.bind (Bc) λd=>Cq.bind (Ut) λe=>Cq.next (I2 b (0,d,e)) λi=>match i with|.inl f=>Cq.ret f|.inr (g,h)=>Zd8 c a g h)
end Go.EL

namespace Go.EL
open Go.IntKind (i8 i16 i32 i64 u8 u16 u32 u64)
open Go
namespace Cq
variable {α β σ ρ:Type}
theorem wp_ret{a:α}{p:α->Prop}:(Cq.ret a).wp p↔p a:=Iff.rfl
theorem Zm{q:Prop}[Decidable q]{c d:Cq α}{p:α->Prop}:(if q then c else d).wp p↔if q then c.wp p else d.wp p:=by split<;>rfl
theorem Zzg{A:σ->Prop}{Φ:ρ->Prop}{s:σ}:Out A Φ (.inl s)↔A s:=Iff.rfl
theorem Α.then{c:Cq α}{a:α}(h:c.Α a){p:α->Prop}(hp:p a):c.wp p:=c.mono (λb e=>by rw[e];exact hp) h
end Cq
theorem wrap64{x:Int}(h:-9223372036854775808<=x/\x<=9223372036854775807):i64.wrap x=x:=IntWalk.i64_in _ h
theorem mT{a:Fin 8->Int}{i:Int}(h:0<=i/\i<8):Ε a i=a ⟨i.toNat,ŉ⟩:=y8 a ŉ
theorem Jk(a b:M):(yB a b).Α (Û a b):=by
 unfold yB;by_cases h:a=b
 .rw[ą h];subst h;exact(AQ a).symm
 rw[ā h];have n:∀k:Nat,k<=8->(∀j:Fin 8,j.val<k->a j=b j)->k<8:=λk l g=>by
  rcases Ş k 8 with q|q
  .exact q
  exact absurd (funext λj=>g j ŉ) h
 refine Cq.LI (I:=λi:Int=>0<=i/\i<8/\∀j:Fin 8,(j.val:Int)<i->a j=b j) (m:=λi=>(8-i).toNat) (λi hi=>?_) 0 ⟨ŉ,ŉ,λj g=>by omega⟩;obtain⟨c,d,g⟩:=hi;refine⟨⟨c,d⟩,⟨c,d⟩,?_⟩;rw[Cq.Zm,mT ⟨c,d⟩,mT ⟨c,d⟩];split
 .rename_i e;have ke:∀j:Fin 8,(j.val:Int)<i+1->a j=b j:=λj f=>by
   by_cases h2:(j.val:Int)<i
   .exact g j h2
   have:j=⟨i.toNat,ŉ⟩:=abe ab0;rw[this];exact e
  have:=n (i+1).toNat ŉ (λj f=>ke j ŉ);rw[Cq.wp_ret,Cq.Zzg,wrap64 ŉ];exact⟨⟨ŉ,ŉ,ke⟩,ŉ⟩
 rename_i e;refine⟨⟨c,d⟩,⟨c,d⟩,?_⟩;rw[Cq.Zm,mT ⟨c,d⟩,mT ⟨c,d⟩];have l:i.toNat<8:=ŉ;split
 .rename_i p;exact(Uq a b l (λj f=>g j ŉ) p).symm
 rename_i p;exact(Up a b l (λj f=>g j ŉ) ŉ).symm
end Go.EL

namespace Go.EL
open Go.IntKind (i8 i16 i32 i64 u8 u16 u32 u64)
open Go
instance MR:DecidableEq Zg:=λ⟨a1,a2⟩ ⟨a,c⟩=>decidable_of_iff (a1=a/\a2=c) ß
instance MS:DecidableEq Zf:=λ⟨a1,a2⟩ ⟨a,c⟩=>decidable_of_iff (a1=a/\a2=c) ß
def ü(n:Int):Zf:=⟨⟨decide (n<0),if n=0 then[]else[(n.natAbs:Int)]⟩,⟨false,[1]⟩⟩
def á(l h:Int)(p:Int->Bool):Bool:=(List.range (h-l+1).toNat).all λk=>p (l+(k:Int))
theorem Zq{l h:Int}{p:Int->Bool}(a:á l h p=true){x:Int}(c:l<=x)(h2:x<=h):p x=true:=by have:=Ć.1 a (x-l).toNat (ĺ.2 ŉ);rwa [show l+((x-l).toNat:Int)=x by omega]at this
def runs{α:Type}[DecidableEq α](n:Nat)(c:Cq α)(a:α):Bool:=decide (c.ev n=some a)
theorem Zs{α:Type}[DecidableEq α]{n:Nat}{c:Cq α}{a:α}(h:runs n c a=true):c.Α a:=Cq.Α.l8 n (ĥ h)
theorem ZxJ:(á (-8) 8 λn=>runs 20 (ZX n) (ü n))=true:=by decide +kernel
theorem Zzj:(á (-12) 12 λa=>á (-3) 3 λb=>runs 30 (vr (ü a) (ü b)) (ü (a+b)))=true:=by decide +kernel
theorem Zz0:(á (-3) 3 λa=>runs 30 (qZ (ü a) (ü 1)) (ü a))=true:=by decide +kernel
theorem FK:(á (-15) 15 λa=>runs 30 (oB (ü a)) (if a<0 then -1 else if a=0 then 0 else 1))=true:=by decide +kernel
theorem ZxF:(á (-15) 15 λa=>a == 0 || runs 30 (tY (ü a)) true)=true:=by decide +kernel
theorem S1:(á (-12) 12 λa=>a == 0 || runs 30 (ZH (ü a)) (if a<0 then -1 else if a=0 then 0 else 1))=true:=by decide +kernel
theorem ZvS:(á (-12) 12 λa=>a == 0 || runs 30 (ZZ (ü a)) true)=true:=by decide +kernel
theorem ZyH:(á (-12) 12 λa=>a == 0 || á (-12) 12 λb=>b == 0 || runs 30 (u9 (ü a) (ü b)) (if a<b then -1 else if a=b then 0 else 1))=true:=by decide +kernel
end Go.EL

namespace Go.EL
open Go.IntKind (i8 i16 i32 i64 u8 u16 u32 u64)
open Go Go.RowKit
def lN(k:Nat)(f a:M):M:=λi=>if i.val<k then f i else a i
theorem Te{k:Nat}(f a:M)(h:k<8):ζ (lN k f a) k (f ⟨k,h⟩)=lN (k+1) f a:=by
 funext i;unfold ζ lN;by_cases e:i.val=k
 .have:i=⟨k,h⟩:=abe e;subst this;simp
 have c:(i.val<k+1)=(i.val<k):=by apply propext;omega
 simp[e,c]
theorem VJ{k:Nat}(f a:M)(h:k<8):lN k f a ⟨k,h⟩=a ⟨k,h⟩:=by unfold lN;simp
theorem Tf(f a:M):lN 0 f a=a:=by funext i;simp[lN]
theorem U8{k:Nat}(f a:M)(h:¬k<8):lN k f a=f:=by funext i;have:i.val<k:=ŉ;simp[lN,this]
theorem Zx1{p:Fin 8->Prop}{k:Nat}(a:∀i:Fin 8,i.val<k->p i)(h:k<8)(c:p ⟨k,h⟩):∀i:Fin 8,i.val<k+1->p i:=λi hi=>by
 by_cases e:i.val=k
 .have:i=⟨k,h⟩:=abe e;rw[this];exact c
 exact a i ŉ
def Ok(a:M):Prop:=∀i,0<=a i/\a i<=65535
def p2:Nat->Int
 |0=>1
 |k+1=>2*p2 k
theorem ZBf:∀{k:Nat},k<=8->1<=p2 k/\p2 k<=256
 |0,_=>by decide
 |1,_=>by decide
 |2,_=>by decide
 |3,_=>by decide
 |4,_=>by decide
 |5,_=>by decide
 |6,_=>by decide
 |7,_=>by decide
 |8,_=>by decide
 |k+9,h=>by omega
theorem Ms{k:Nat}(h:k<8):1<=p2 k/\p2 k<=128:=by have:=ZBf (k:=k+1) ŉ;simp only[p2]at this;omega
theorem Zyq{k:Nat}(h:k<8):u8.wrap (1*2 ^ (min (k:Int).toNat u8.bits))=p2 k:=by
 match k,h with
 |0,_=>decide|1,_=>decide|2,_=>decide|3,_=>decide|4,_=>decide|5,_=>decide|6,_=>decide|7,_=>decide
theorem Zz6{k:Nat}(h:k<8):u8.wrap (p2 k)=p2 k:=by
 match k,h with
 |0,_=>decide|1,_=>decide|2,_=>decide|3,_=>decide|4,_=>decide|5,_=>decide|6,_=>decide|7,_=>decide
def Ú(a:M):Nat->Int
 |0=>0
 |k+1=>Ú a k+(if h:k<8 then(if 0<a ⟨k,h⟩then p2 k else 0)else 0)
def jC(a:M):Int:=Ú a 8
theorem AG(a:M):∀k:Nat,0<=Ú a k/\Ú a k<p2 k
 |0=>by simp[Ú,p2]
 |k+1=>by
  have c:=AG a k;simp only[Ú,p2];split
  .split<;>omega
  omega
theorem R9(a:M){k:Nat}(h:k<8)(c:0<a ⟨k,h⟩):Ú a k+p2 k=Ú a (k+1):=by simp[Ú,h,c]
theorem S4(a:M){k:Nat}(h:k<8)(c:¬0<a ⟨k,h⟩):Ú a k=Ú a (k+1):=by simp[Ú,h,c]
theorem Zxd:∀k:Fin 8,∀s:Fin 128,s.val<2 ^ k.val->u8.wrap (BitVec.ofInt u8.bits (s.val:Int) ||| BitVec.ofInt u8.bits (p2 k.val)).toNat=s.val+p2 k.val:=by decide +kernel
theorem ze:∀k:Nat,p2 k=((2 ^ k:Nat):Int)
 |0=>rfl
 |k+1=>by rw[p2,ze k,Nat.pow_succ];omega
theorem ZBe{k:Nat}(h:k<8){s:Int}(a:0<=s)(c:s<p2 k):u8.wrap (BitVec.ofInt u8.bits s ||| BitVec.ofInt u8.bits (p2 k)).toNat=s+p2 k:=by obtain⟨n,rfl⟩:=aar a;have h2:=Ms h;rw[ze]at c;exact Zxd ⟨k,h⟩ ⟨n,by rw[ze]at h2;omega⟩ ab0
theorem ZAt{k:Nat}(h:k<8){s:Int}(a:0<=s)(c:s<p2 k):u8.wrap (s+p2 k)=s+p2 k:=by have h2:=Ms h;simp only[IntKind.wrap,IntKind.bits,IntKind.signed,Ŭ,Ś,aaM];omega
theorem Cq.Zn{σ ρ:Type}{step:σ->Cq (σ⊕ρ)}{Φ:ρ->Prop}(n:Nat)(I:Nat->σ->Prop)(h:∀k s,k<n->I k s->(step s).wp (Out (λs'=>I (k+1) s') Φ))(a:∀s,I n s->(step s).wp (Out (λ_=>False) Φ)):
  ∀{s:σ},I 0 s->(Cq.loop step s).wp Φ:=by
 have key:∀d k s,k+d=n->I k s->(Cq.loop step s).wp Φ:=by
  intro d;induction d with
  |zero=>intro k s e c;rw[ec]at e;subst e;exact Cq.Zr ((step s).mono (Out.mono (λ_ h=>h.elim) (λ_ x=>x)) (a s c))
  |succ d f=>intro k s e c;exact Cq.Zr ((step s).mono (Out.mono (λs' h'=>f (k+1) s' ŉ h') (λ_ x=>x)) (h k s ŉ c))
 exact λ{s} c=>key n 0 s ŉ c
theorem ψ{k:Nat}(h:k<1000000000000):i64.wrap ((k:Int)+1)=((k+1:Nat):Int):=by rw[wrap64 ŉ];simp
theorem Κ{α:Type}{l:Ŀ α}{k:Nat}(h:k<l.length):(0:Int)<=(k:Int)/\l[(k:Int).toNat]?=some l[k]:=⟨ŉ,by simp[h]⟩
theorem Õ{a:M}{k:Nat}(h:k<8):Ε a (k:Int)=a ⟨k,h⟩:=by rw[mT ŉ];rfl
theorem ZtC(m:M):(Jl m).Α (jC m):=by
 show(Cq.loop _ _).wp _;refine Cq.Zn 8 (λk s=>s=(Ú m k,(k:Int))) (λk s a c=>?_) (λs c=>?_) rfl
 .subst c;refine Cq.wp.yes (p:=(k:Int)<8) ŉ ?_;refine⟨ŉ,?_⟩;rw[Cq.Zm,Õ a];have d:=AG m k;split
  .rename_i h;refine⟨ŉ,?_⟩;show _=_;rw[ψ ŉ,Zyq a,ZBe a d.1 d.2,R9 m a h]
  rename_i h;show _=_;rw[ψ ŉ,S4 m a h]
 subst c;refine Cq.wp.no (p:=((8:Nat):Int)<8) ŉ ?_;rfl
theorem Ai(a b:M):(xx a b).Α (Û a b):=by
 refine Cq.Zn 8 (λk s=>s=(k:Int)/\∀i:Fin 8,i.val<k->a i=b i) (λk s c d=>?_) (λs d=>?_) ⟨rfl,λi hi=>by omega⟩
 .obtain⟨rfl,hi⟩:=d;rw[Cq.Zm,ą ŉ];refine⟨ŉ,ŉ,?_⟩;rw[Cq.Zm,Õ c,Õ c];split
  .rename_i h;show _=_;exact(Uq a b c hi h).symm
  rename_i h;refine⟨ŉ,ŉ,?_⟩;rw[Cq.Zm];split
  .rename_i h2;show _=_;exact(Up a b c hi h2).symm
  exact⟨ψ ŉ,Zx1 hi c ŉ⟩
 obtain⟨rfl,hi⟩:=d;rw[Cq.Zm,ā ŉ];show _=_;exact(Uo a b (λi=>hi i i.isLt)).symm
theorem ZsW{i:Nat}(hi:i<8):(Ma (i:Int)).Α (p2 i):=by
 refine Cq.Zn i (λk s=>s=(p2 k,(k:Int))) (λk s c a=>?_) (λs a=>?_) rfl
 .subst a;show(if(k:Int)<(i:Int)then _ else _:Cq _).wp _;have:=Ms (k:=k) ŉ;rw[Cq.Zm,ą ŉ];show _=_;rw[ψ ŉ,wrap64 ŉ];rfl
 subst a;refine Cq.wp.no (p:=(i:Int)<(i:Int)) ŉ ?_;exact Zz6 hi
theorem ZmC(m:M):(JZ m).Α (jC m):=by
 refine Cq.Zn 8 (λk s=>s=(Ú m k,(k:Int))) (λk s a c=>?_) (λs c=>?_) rfl
 .subst c;have d:=AG m k;refine Cq.wp.yes (p:=(k:Int)<8) ŉ ?_;refine⟨ŉ,?_⟩;rw[Cq.Zm,Õ a];split
  .rename_i hp;refine⟨_,ZsW a,?_⟩;show _=_;rw[ψ ŉ,ZAt a d.1 d.2,R9 m a hp]
  rename_i hp;show _=_;rw[ψ ŉ,S4 m a hp]
 subst c;refine Cq.wp.no (p:=((8:Nat):Int)<8) ŉ ?_;rfl
theorem P0{m:M}(h:Ok m):(Fq m).Α true:=by
 refine Cq.Zn 8 (λk s=>s=(k:Int)) (λk s c a=>?_) (λs a=>?_) rfl
 .subst a;have:=h ⟨k,c⟩;rw[Cq.Zm,ą ŉ];refine⟨ŉ,?_⟩;rw[Cq.Zm,Õ c,ā ŉ];refine⟨ŉ,?_⟩;rw[Cq.Zm,ā ŉ];exact ψ ŉ
 subst a;rw[Cq.Zm,ā ŉ];rfl
theorem Sv{m:M}(h:Ok m):(D7 m).Α true:=by
 refine Cq.Zn 8 (λk s=>s=(k:Int)) (λk s c a=>?_) (λs a=>?_) rfl
 .subst a;have:=h ⟨k,c⟩;refine Cq.wp.yes (p:=(k:Int)<8) ŉ ?_;refine⟨ŉ,?_⟩;rw[Cq.Zm,Õ c,ā ŉ,Cq.Zm,ā ŉ];exact ψ ŉ
 subst a;refine Cq.wp.no (p:=((8:Nat):Int)<8) ŉ ?_;rfl
def fD(m:M):Nat->Int
 |0=>0
 |k+1=>fD m k+(if h:k<8 then m ⟨k,h⟩else 0)
def fH(m:M):Int:=fD m 8
theorem FC{m:M}(h:Ok m):∀k:Nat,0<=fD m k/\fD m k<=65535*k
 |0=>by simp[fD]
 |k+1=>by
  have c:=FC h k;simp only[fD];split
  .rename_i a;have:=h ⟨k,a⟩;omega
  omega
theorem ZnJ{m:M}(h:Ok m):(Kl m).Α (fH m):=by
 refine Cq.Zn 8 (λk s=>s=(fD m k,(k:Int))) (λk s a c=>?_) (λs c=>?_) rfl
 .subst c;have d:=FC h k;have h2:=h ⟨k,a⟩;refine Cq.wp.yes (p:=(k:Int)<8) ŉ ?_;refine⟨ŉ,?_⟩;show _=_;rw[ψ ŉ,Õ a,wrap64 ŉ,fD,Ÿ a]
 subst c;refine Cq.wp.no (p:=((8:Nat):Int)<8) ŉ ?_;rfl
theorem ZuT{m:M}(h:Ok m):(Jg m).Α (fH m):=by
 refine Cq.Zn 8 (λk s=>s=(fD m k,(k:Int))) (λk s a c=>?_) (λs c=>?_) rfl
 .subst c;have d:=FC h k;have h2:=h ⟨k,a⟩;refine Cq.wp.yes (p:=(k:Int)<8) ŉ ?_;refine⟨ŉ,?_⟩;show _=_;rw[ψ ŉ,Õ a,wrap64 ŉ,fD,Ÿ a]
 subst c;refine Cq.wp.no (p:=((8:Nat):Int)<8) ŉ ?_;rfl
def mulM(a b:M):M:=λi=>a i+b i
theorem QA{a b:M}(f:Ok a)(g:Ok b)(d:Ok (mulM a b)):(Mb a b).Α (mulM a b,0):=by
 show(Cq.next _ _).wp _;refine Cq.Zn 8 (λk s=>s=((k:Int),lN k (mulM a b) a)) (λk s c e=>?_) (λs e=>?_) (by rw[Tf];rfl)
 .subst e;have h:=f ⟨k,c⟩;have h2:=g ⟨k,c⟩;rw[Cq.Zm,ą ŉ];refine⟨ŉ,ŉ,ŉ,?_⟩;show _=_;rw[ψ ŉ,Õ c,Õ c,VJ,wrap64 ŉ];exact đ (Prod.mk _) (Te (mulM a b) a c)
 subst e;rw[Cq.Zm,ā ŉ,U8 _ _ ŉ];exact⟨true,P0 d,rfl⟩
end Go.EL

namespace Go.EL
open Go.IntKind (i8 i16 i32 i64 u8 u16 u32 u64)
open Go Go.RowKit
theorem tU{c:Zf}(h:fk c=true):∃n:Int,c=ü n/\n≠0/\-12<=n/\n<=12:=by
 obtain⟨⟨e,i⟩,⟨f,dm⟩⟩:=c;unfold fk at h;dsimp only at h;split at h
 .rename_i w d;simp only[Ĉ,Ŕ,Ě]at h;obtain⟨⟨⟨a,h2⟩,h3⟩,g⟩:=h;subst a h2;cases e with
  |true=>
   refine⟨-w,?_,ŉ,ŉ,ŉ⟩;unfold ü;rw[ā ŉ,ă ŉ,show((-w).natAbs:Int)=w by omega]
  |false=>
   refine⟨w,?_,ŉ,ŉ,ŉ⟩;unfold ü;rw[ā ŉ,ĉ ŉ,show((w).natAbs:Int)=w by omega]
 cases h
theorem py(n:Int):Í (ü n)=n:=by
 unfold Í ü;by_cases h:n<0
 .rw[ă h,ą rfl,ā ŉ];simp;omega
 rw[ĉ h];by_cases a:n=0
 .subst a;rfl
 simp[a];omega
theorem Zvr{n:Int}(a:n≠0)(c:-12<=n)(h2:n<=12):fk (ü n)=true:=by unfold fk ü;rw[ā a];simp;omega
def gZ(a b:Zf):Int:=if Í a<Í b then -1 else if Í a=Í b then 0 else 1
theorem TD{a b:Zf}(e:fk a=true)(f:fk b=true):(u9 a b).Α (gZ a b):=by
 obtain⟨m,rfl,g,i,j⟩:=tU e;obtain⟨n,rfl,k,l,p⟩:=tU f;have h:=Zq ZyH i j;have c:(m == 0)=false:=by simpa using g
 rw[c,ļ]at h;have h':=Zq h l p;have d:(n == 0)=false:=by simpa using k
 rw[d,ļ]at h';have:=Zs h';unfold gZ;rw[py,py];exact this
theorem Zwi{a b:Zf}(c:fk a=true)(d:fk b=true)(h:gZ a b=0):a=b:=by
 obtain⟨m,rfl,_⟩:=tU c;obtain⟨n,rfl,_⟩:=tU d;unfold gZ at h;rw[py,py]at h;split at h
 .omega
 split at h
 .rename_i e;rw[e]
 omega
theorem Zx4(a b:Zf):gZ b a = - gZ a b:=by unfold gZ;split<;>split<;>(try split)<;>omega
theorem Zzm{a b:Zf}:gZ a b<=0↔Í a<=Í b:=by unfold gZ;split<;>(try split)<;>constructor<;>intro h<;>omega
theorem Zzn{a b:Zf}:gZ a b<0↔Í a<Í b:=by unfold gZ;split<;>(try split)<;>constructor<;>intro h<;>omega
theorem Zvj{a b c:Zf}(d:gZ a b<=0)(h2:gZ b c<=0):gZ a c<=0/\((gZ a b<0\/gZ b c<0)->gZ a c<0):=by rw[Zzm]at *;simp only[Zzn];omega
theorem FB(s t:Za):fA t s = - fA s t:=by
 unfold fA;by_cases h:s.m=t.m
 .rw[ą h,ą h.symm];exact Zx4 s.c t.c
 rw[ā h,ā (λe=>h e.symm)];exact tS _ _
theorem EI(a b c:Za)(g:fA a b<=0)(h2:fA b c<=0):fA a c<=0/\((fA a b<0\/fA b c<0)->fA a c<0):=by
 have j:∀{x y:Za},x.m≠y.m->Û x.m y.m<=0->Û x.m y.m<0:=λh h'=>by
  rcases Int.lt_or_eq_of_le h' with h'|h'
  .exact h'
  exact absurd (tZ h') h
 unfold fA at *;by_cases d:a.m=b.m
 .by_cases f:b.m=c.m
  .rw[ą d]at g⊢;rw[ą f]at h2⊢;rw[ą (d.trans f)];exact Zvj g h2
  rw[ą d]at g⊢;rw[ā f]at h2⊢;rw[ā (λe=>f (d.symm.trans e))];have:=j f h2;rw[d];exact⟨h2,λ_=>this⟩
 by_cases f:b.m=c.m
 .rw[ā d]at g⊢;rw[ą f]at h2⊢;rw[ā (λe=>d (e.trans f.symm))];have:=j d g;rw[<-f];exact⟨g,λ_=>this⟩
 rw[ā d]at g⊢;rw[ā f]at h2⊢;have i:=j d g;have h3:=JP g h2 (.inl i);have:a.m≠c.m:=λe=>by rw[e,AQ]at h3;omega
 rw[ā this];exact⟨Int.le_of_lt h3,λ_=>h3⟩
theorem Zwk{s t:Za}(a:fk s.c=true)(c:fk t.c=true)(h:fA s t=0):s=t:=by
 unfold fA at h;have key:s.m=t.m/\s.c=t.c:=by
  by_cases e:s.m=t.m
  .rw[ą e]at h;exact⟨e,Zwi a c h⟩
  rw[ā e]at h;exact absurd (tZ h) e
 cases s;cases t;simp only at key;rw[key.1,key.2]
theorem qC:∀p q:Ŀ Za,ì q p = - ì p q
 |[],[]=>rfl
 |[],_::_=>rfl
 |_::_,[]=>rfl
 |s::p,t::q=>by
  unfold ì;rw[FB s t,qC p q];by_cases h:fA s t=0
  .rw[ą h,ą ŉ]
  rw[ā h,ā ŉ]
theorem yJ:∀a b c:Ŀ Za,ì a b<=0->ì b c<=0->ì a c<=0/\((ì a b<0\/ì b c<0)->ì a c<0)
 |[],[],[],d,h2=>⟨ĳ,λh=>by rcases h with h|h<;>exact absurd h ĳ⟩
 |[],[],_::_,d,h2=>⟨by simp[ì],λ_=>by simp[ì]⟩
 |[],_::_,[],d,h2=>by simp[ì]at h2
 |[],_::_,_::_,d,h2=>⟨by simp[ì],λ_=>by simp[ì]⟩
 |_::_,[],_,d,h2=>by simp[ì]at d
 |_::_,_::_,[],d,h2=>by simp[ì]at h2
 |s::a,t::b,u::c,d,h2=>by
  have l:=FB s t;have i:=yJ a b c;have tr:=EI s t u;have j:=EI t s u;have k:=EI s u t;have m:=FB t u;have n3:=FB s u;simp only[ì]at *;by_cases g:fA s t=0
  .rw[ą g]at d⊢;by_cases e:fA t u=0
   .rw[ą e]at h2⊢;have h3:fA s u=0:=by
     have f:=(tr ŉ ŉ).1;have n:=(EI u t s ŉ ŉ).1;omega
    rw[ą h3];exact i d h2
   rw[ā e]at h2⊢;have f:=(tr ŉ h2).2 (.inr ŉ);rw[ā ŉ];exact⟨ŉ,λ_=>f⟩
  rw[ā g]at d⊢;have e:fA t u<=0:=by
   by_cases e:fA t u=0
   .omega
   rw[ā e]at h2;exact h2
  have f:=(tr d e).2 (.inl ŉ);rw[ā ŉ];exact⟨ŉ,λ_=>f⟩
theorem xi(p:Ŀ Za):ì p p=0:=by have:=qC p p;omega
theorem RN{t:Za}{p:Ŀ Za}(h:Ñ (t::p)=true):fk t.c=true/\Ñ p=true:=by unfold Ñ at *;simp only[Ĉ,Ě,ę,aaK]at h⊢;exact⟨h.2.1,ŉ,h.2.2⟩
theorem AR:∀{p q:Ŀ Za},Ñ p=true->Ñ q=true->ì p q=0->p=q
 |[],[],_,_,_=>rfl
 |[],_::_,_,_,h=>by simp[ì]at h
 |_::_,[],_,_,h=>by simp[ì]at h
 |s::p,t::q,hp,a,h=>by
  obtain⟨p1,p2⟩:=RN hp;obtain⟨c,d⟩:=RN a;simp only[ì]at h;by_cases e:fA s t=0
  .rw[ą e]at h;rw[Zwk p1 c e,AR p2 d h]
  rw[ā e]at h;exact absurd h e
abbrev mz:={ p:Ŀ Za // Ñ p=true }
theorem Oh:Go.Sort.SWO (Go.Proofs.ltOf λa b:mz=>ì a.1 b.1) where
 irrefl x:=by show decide (ì x.1 x.1<0)=false;rw[xi];rfl
 trans x y z c h2:=by simp only[Go.Proofs.ltOf,Ě]at *;exact(yJ x.1 y.1 z.1 ŉ ŉ).2 (.inl c)
 ntrans x y z c h2:=by simp only[Go.Proofs.ltOf,aaq,aaI]at *;have d:=qC x.1 y.1;have e:=qC y.1 z.1;have n3:=qC x.1 z.1;have:=(yJ z.1 y.1 x.1 ŉ ŉ).1;omega
theorem Lq(x:Ŀ Za):∀l,(zB x l).Perm (x::l)
 |[]=>lv _
 |y::l=>by
  unfold zB;split
  .exact ((Lq x l).cons y).trans (List.Perm.swap x y l)
  exact lv _
theorem vh:∀l,(jx l).Perm l
 |[]=>lv _
 |x::l=>(Lq x (jx l)).trans ((vh l).cons x)
theorem RQ(x:Ŀ Za):∀l,l.Pairwise (λa b=>ì a b<=0)->(zB x l).Pairwise (λa b=>ì a b<=0)
 |[],_=>ũ _ _
 |y::l,h=>by
  unfold zB;obtain⟨d,h2⟩:=Į.1 h;have n:=qC x y;split
  .refine Į.2 ⟨λz c=>?_,RQ x l h2⟩;rcases Ď.1 ((Lq x l).mem_iff.1 c)with rfl|c
   .omega
   exact d z c
  refine Į.2 ⟨λz c=>?_,h⟩;rcases Ď.1 c with rfl|c
  .omega
  exact(yJ x y z ŉ (d z c)).1
theorem Kq:∀l,(jx l).Pairwise (λa b=>ì a b<=0)
 |[]=>List.Pairwise.nil
 |x::l=>RQ x _ (Kq l)
theorem QT:∀{l m:Ŀ (Ŀ Za)},l.Perm m->(∀p∈l,Ñ p=true)->l.Pairwise (λa b=>ì a b<=0)->m.Pairwise (λa b=>ì a b<=0)->l=m
 |[],m,h,_,_,_=>(List.Perm.nil_eq h)
 |x::l,[],h,_,_,_=>by have:=h.length_eq;simp at this
 |x::l,y::m,h,d,j,h2=>by
  obtain⟨a1,a2⟩:=Į.1 j;obtain⟨g,i⟩:=Į.1 h2;have e:x=y:=by
   have f:x∈y::m:=h.mem_iff.1 ß;have c:y∈x::l:=h.mem_iff.2 ß;have k:ì x y<=0:=by
    rcases Ď.1 c with rfl|c
    .rw[xi];exact Ŝ 0
    exact a1 y c
   have q:ì y x<=0:=by
    rcases Ď.1 f with rfl|f
    .rw[xi];exact Ŝ 0
    exact g x f
   have n:=qC x y;exact AR (d x ß) (d y c) ŉ
  subst e;rw[QT (List.Perm.cons_inv h) (λp hp=>d p (by simp[hp])) a2 i]
theorem ZxR{s t:Za}(a:fk s.c=true)(c:fk t.c=true):(D0 s t).Α (fA s t):=by
 unfold D0 fA;by_cases h:s.m=t.m
 .rw[ą h];exact Cq.wp.no (by simpa using h) ⟨_,TD a c,rfl⟩
 rw[ā h];exact Cq.wp.yes h ⟨_,Jk _ _,rfl⟩
theorem tz{p:Ŀ Za}(h:Ñ p=true){k:Nat}(a:k<p.length):fk p[k].c=true:=by unfold Ñ at h;simp only[Ĉ]at h;exact Ć.1 h.2 _ (Ă a)
theorem vg{p:Ŀ Za}(h:Ñ p=true):p.length<=1000:=by unfold Ñ at h;simp only[Ĉ,Ě]at h;exact h.1
theorem Fa(p q:Ŀ Za){k:Nat}(hp:k<p.length)(a:k<q.length):ì (p.drop k) (q.drop k)=if fA p[k] q[k]=0 then ì (p.drop (k+1)) (q.drop (k+1))else fA p[k] q[k]:=by rw[ĭ hp,ĭ a];rfl
theorem Tb{p q:Ŀ Za}(hp:Ñ p=true)(g:Ñ q=true):(D9 p q).Α (ì p q):=by
 have j:=vg hp;have l:=vg g;refine⟨ì p q,?_,rfl⟩;unfold ZB;refine(ZI p q 0).mono (p:=λo=>match o with|.inl v=>v=ì p q|.inr ()=>q.length ≥ p.length/\ì p q=ì [] (q.drop p.length)) (λo h=>?_) (Cq.Zn p.length (λk s=>s=(k:Int)/\k<=p.length/\k<=q.length/\ì p q=ì (p.drop k) (q.drop k)) ?_ ?_ ⟨rfl,Ĝ _,Ĝ _,rfl⟩)
 .match o,h with
  |.inl v,h=>exact h
  |.inr (),⟨f,h2⟩=>
   show(Zz p q).Α _;unfold Zz;by_cases i:p.length<q.length
   .refine Cq.wp.yes ŉ ?_;show(-1:Int)=_;rw[h2,ĭ i];rfl
   refine Cq.wp.no ŉ ?_;show(0:Int)=_;rw[h2,Ķ ŉ];rfl
 .rintro k s d ⟨rfl,f,h2,h3⟩;refine Cq.wp.yes ŉ ⟨_,Κ d,?_⟩;by_cases a:k<q.length
  .refine Cq.wp.no ŉ ⟨_,Κ a,_,ZxR (tz hp d) (tz g a),?_⟩;have c:=Fa p q d a;by_cases e:fA p[k] q[k]=0
   .rw[ą e]at c;refine Cq.wp.no ŉ ?_;exact⟨ψ ŉ,ŉ,ŉ,h3.trans c⟩
   rw[ā e]at c;refine Cq.wp.yes e ?_;exact(h3.trans c).symm
  refine Cq.wp.yes ŉ ?_;show(1:Int)=_;rw[h3,ĭ d,Ķ (show q.length<=k by omega)];rfl
 rintro s ⟨rfl,f,h2,h3⟩;refine Cq.wp.no ŉ ?_;refine⟨h2,?_⟩;rw[h3,Ķ (Ċ _)]
theorem SI(y:Ŀ Za):∀(x:Ŀ Za) (l:Ŀ (Ŀ Za)),jN x (l++[y])=jN x l++(if ì y (l.getLastD x)=0 then[]else[y])
 |x,[]=>by
  show jN x [y]=_;unfold jN;by_cases h:ì y x=0
  .rw[ą h];simp[h,jN]
  rw[ā h];simp[h,jN]
 |x,z::l=>by
  have a:=SI y z l;show jN x (z::(l++[y]))=_;have e:(z::l).getLastD x=l.getLastD z:=by cases l<;>simp[List.getLastD]
  rw[e];simp only[jN];split
  .exact a
  rw[a];rfl
theorem SJ{xs:Ŀ (Ŀ Za)}{j:Nat}(c:1<=j)(a:j<xs.length):gd (xs.take (j+1))=if ì xs[j] xs[j-1]=0 then gd (xs.take j)else gd (xs.take j)++[xs[j]]:=by
 match xs,a with
 |x::l,a=>
  obtain⟨i,rfl⟩:∃i,j=i+1:=⟨j-1,ŉ⟩;have hi:i<l.length:=by simpa using a
  rw[č a];simp only[List.take_succ_cons,ĸ,gd,SI,x5,Nat.add_sub_cancel];have e:(l.take i).getLastD x=(x::l)[i]:=by
   cases i with
   |zero=>rfl
   |succ i=>
    rw[List.getLastD_eq_getLast?,List.getLast?_eq_getElem?,Č];rw[show min (i+1) l.length-1=i by omega,Ŷ ŉ,Ą ŉ];rfl
  rw[e];split<;>simp
theorem Th:∀{xs:Ŀ (Ŀ Za)},(gd xs).length<=xs.length
 |[]=>Ċ _
 |x::l=>by
  have key:∀(x:Ŀ Za) (l:Ŀ (Ŀ Za)),(jN x l).length<=l.length:=by
   intro x l;induction l generalizing x with
   |nil=>exact Ċ _
   |cons y l a=>
    unfold jN;split
    .exact aav (a y)
    simpa using a y
  simpa[gd]using key x l
theorem RL{xs:Ŀ (Ŀ Za)}(h:xs.length<2):gd xs=xs:=by
 match xs,h with
 |[],_=>rfl
 |[x],_=>rfl
theorem Zwe{s t:Za}(a:fk s.c=true)(c:fk t.c=true):(DZ s t).Α (decide (fA s t=0)):=by
 unfold DZ fA;by_cases h:s.m=t.m
 .simp only[ą h];exact⟨_,TD a c,rfl⟩
 simp only[ā h];show false=_;have:¬Û s.m t.m=0:=λe=>h (tZ e);simp[this]
theorem LD:∀{p q:Ŀ Za},ì p q=0->p.length=q.length
 |[],[],_=>rfl
 |[],_::_,h=>by simp[ì]at h
 |_::_,[],h=>by simp[ì]at h
 |s::p,t::q,h=>by
  simp only[ì]at h;split at h
  .simp[LD h]
  rename_i h';exact absurd h h'
theorem E2{p q:Ŀ Za}(hp:Ñ p=true)(f:Ñ q=true):(ZU p q).Α (decide (ì p q=0)):=by
 have j:=vg hp;have l:=vg f;refine⟨decide (ì p q=0),?_,rfl⟩;unfold ZC;by_cases i:p.length=q.length
 .refine Cq.wp.no ŉ ?_;refine(ZJ p q 0).mono (p:=λo=>match o with|.inl v=>v=decide (ì p q=0)|.inr ()=>ì p q=0) (λo h=>?_) (Cq.Zn p.length (λk s=>s=(k:Int)/\k<=p.length/\ì p q=ì (p.drop k) (q.drop k)) ?_ ?_ ⟨rfl,Ĝ _,rfl⟩)
  .match o,h with
   |.inl v,h=>exact h
   |.inr (),h=>show true=_;rw[ă h]
  .rintro k s d ⟨rfl,g,h3⟩;have a:k<q.length:=ŉ;refine Cq.wp.yes ŉ ⟨_,Κ d,_,Κ a,_,Zwe (tz hp d) (tz f a),?_⟩;have c:=Fa p q d a;by_cases e:fA p[k] q[k]=0
   .rw[ą e]at c;rw[ă e];exact⟨ψ ŉ,ŉ,h3.trans c⟩
   rw[ā e]at c;rw[ĉ e];show false=_;rw[h3,c,ĉ e]
  rintro s ⟨rfl,g,h3⟩;refine Cq.wp.no ŉ ?_;show ì p q=0;rw[h3,Ķ (Ċ _),Ķ ŉ];rfl
 refine Cq.wp.yes ŉ ?_;show false=_;rw[ĉ (λh=>i (LD h))]
theorem Zx3:(á 0 100 λn=>match(tO (u64.wrap n)).ev 30 with|some v=>decide (0<=v/\v<1000000)|none=>false)=true:=by decide +kernel
theorem TJ{n:Nat}(h:n<=100):∃v,(tO (u64.wrap (n:Int))).Α v/\0<=v/\v<1000000:=by
 have:=Zq Zx3 (show(0:Int)<=(n:Int) by omega) (show(n:Int)<=100 by omega);cases a:(tO (u64.wrap (n:Int))).ev 30 with
 |none=>rw[a]at this;cases this
 |some v=>rw[a]at this;exact⟨v,Cq.Α.l8 30 a,ĥ this⟩
end Go.EL

namespace Go.EL
open Go.IntKind (i8 i16 i32 i64 u8 u16 u32 u64)
open Go Go.RowKit
structure iu (t:Za):Prop where
 c:∃c:Int,t.c=ü c/\c≠0/\-12<=c/\c<=12
 m:Ok t.m
structure ω (p:Ŀ Za):Prop where
 ord:p.Pairwise λx y=>0<Û x.m y.m
 th:∀t∈p,iu t
 len:p.length<=100
theorem iu.rv{t:Za}(h:iu t):(tY t.c).Α true:=by obtain⟨⟨c,e,a,d,h2⟩,_⟩:=h;have:=Zq ZxF (x:=c) ŉ ŉ;rw[e];exact Zs (by simpa[a]using this)
theorem iu.rs{t:Za}(h:iu t):∃s,(oB t.c).Α s/\s≠0:=by obtain⟨⟨c,e,a,d,h2⟩,_⟩:=h;have:=Zq FK (x:=c) ŉ ŉ;rw[e];exact⟨_,Zs this,by split<;>omega⟩
theorem iu.pv{t:Za}(h:iu t):(ZZ t.c).Α true:=by obtain⟨⟨c,e,a,d,h2⟩,_⟩:=h;have:=Zq ZvS (x:=c) ŉ ŉ;rw[e];exact Zs (by simpa[a]using this)
theorem iu.ps{t:Za}(h:iu t):∃s,(ZH t.c).Α s/\s≠0:=by
 obtain⟨⟨c,e,a,d,h2⟩,_⟩:=h;have:=Zq S1 (x:=c) ŉ ŉ;rw[e];refine⟨_,Zs (by simpa[a]using this),?_⟩;split<;>first|omega|(split<;>omega)
theorem ω.at{p:Ŀ Za}(h:ω p){k:Nat}(a:k<p.length):iu p[k]:=h.th _ (Ă a)
theorem ω.step{p:Ŀ Za}(h:ω p){k:Nat}(a:k+1<p.length):0<Û p[k].m p[k+1].m:=ħ.1 h.ord k (k+1) ŉ a ŉ
theorem Aa{p:Ŀ Za}(h:ω p):(AK p).Α true:=by
 have i:=h.len;refine Cq.Zn p.length (λk s=>s=(k:Int)) (λk s a c=>?_) (λs c=>?_) rfl
 .subst c;have d:=h.at a;obtain⟨s,e,h2⟩:=d.rs;rw[Cq.Zm,ą ŉ];refine⟨p[k],Κ a,true,d.rv,p[k],Κ a,s,e,?_⟩;rw[Cq.Zm,ā h2];refine⟨p[k],Κ a,true,P0 d.m,?_⟩;rw[Cq.Zm,ā ĳ];show(JK p (k:Int)).wp _;unfold JK;rw[Cq.Zm];split
  .rename_i g;obtain⟨j,rfl⟩:∃j,k=j+1:=⟨k-1,ŉ⟩;have f:i64.wrap (((j+1:Nat):Int)-1)=(j:Int):=by rw[wrap64 ŉ];omega
   rw[f];refine⟨p[j],Κ ŉ,p[j+1],Κ a,_,Ai _ _,?_⟩;have:=h.step a;rw[Cq.Zm,ā ŉ];exact ψ ŉ
  exact ψ ŉ
 subst c;rw[Cq.Zm,ā ŉ];rfl
theorem DS{p:Ŀ Za}(h:ω p):(z7 p).Α true:=by
 have i:=h.len;refine Cq.Zn p.length (λk s=>s=(k:Int)) (λk s a c=>?_) (λs c=>?_) rfl
 .subst c;have d:=h.at a;obtain⟨s,e,h2⟩:=d.ps;refine Cq.wp.yes (p:=(k:Int)<(p.length:Int)) ŉ ?_;refine⟨p[k],Κ a,true,d.pv,s,e,?_⟩;rw[Cq.Zm,ā h2];refine⟨true,Sv d.m,?_⟩;rw[Cq.Zm,ā ĳ];show(I3 p (k:Int) p[k]).wp _;unfold I3;rw[Cq.Zm];split
  .rename_i g;obtain⟨j,rfl⟩:∃j,k=j+1:=⟨k-1,ŉ⟩;have f:i64.wrap (((j+1:Nat):Int)-1)=(j:Int):=by rw[wrap64 ŉ];omega
   rw[f];refine⟨p[j],Κ ŉ,_,Jk _ _,?_⟩;have:=h.step a;rw[Cq.Zm,ā ŉ];exact ψ ŉ
  exact ψ ŉ
 subst c;refine Cq.wp.no (p:=((p.length:Nat):Int)<(p.length:Int)) ŉ ?_;rfl
def hV(p:Ŀ Za):Nat->Int
 |0=>0
 |k+1=>u8.wrap (BitVec.ofInt u8.bits (hV p k) ||| BitVec.ofInt u8.bits (match p[k]? with|some t=>jC t.m|none=>0)).toNat
def ï(p:Ŀ Za):Int:=hV p p.length
def fI(p:Ŀ Za):Nat->Int
 |0=>-1
 |k+1=>match p[k]? with|some t=>if fI p k<fH t.m then fH t.m else fI p k|none=>fI p k
def gf(p:Ŀ Za):Int:=fI p p.length
theorem z8{p:Ŀ Za}(d:p.length<=100):(A5 p).Α (ï p):=by
 refine Cq.Zn p.length (λk s=>s=(hV p k,(k:Int))) (λk s c a=>?_) (λs a=>?_) rfl
 .subst a;refine Cq.wp.yes (p:=(k:Int)<(p.length:Int)) ŉ ?_;refine⟨p[k],Κ c,_,ZmC _,?_⟩;show _=_;rw[ψ ŉ];simp only[hV,Ą c]
 subst a;refine Cq.wp.no (p:=((p.length:Nat):Int)<(p.length:Int)) ŉ ?_;rfl
theorem Fz{p:Ŀ Za}(d:p.length<=100):(Ae p).Α (ï p):=by
 refine Cq.Zn p.length (λk s=>s=(hV p k,(k:Int))) (λk s c a=>?_) (λs a=>?_) rfl
 .subst a;refine Cq.wp.yes (p:=(k:Int)<(p.length:Int)) ŉ ?_;refine⟨p[k],Κ c,_,ZtC _,?_⟩;show _=_;rw[ψ ŉ];simp only[hV,Ą c]
 subst a;refine Cq.wp.no (p:=((p.length:Nat):Int)<(p.length:Int)) ŉ ?_;rfl
theorem wS{p:Ŀ Za}(h:ω p):(wU p).Α (gf p):=by
 have d:=h.len;refine Cq.Zn p.length (λk s=>s=(fI p k,(k:Int))) (λk s a c=>?_) (λs c=>?_) rfl
 .subst c;refine Cq.wp.yes (p:=(k:Int)<(p.length:Int)) ŉ ?_;refine⟨p[k],Κ a,_,ZnJ (h.at a).m,?_⟩;show _=_;rw[ψ ŉ];simp only[fI,Ą a]
 subst c;refine Cq.wp.no (p:=((p.length:Nat):Int)<(p.length:Int)) ŉ ?_;rfl
theorem yu{p:Ŀ Za}(h:ω p):(wP p).Α (gf p):=by
 have d:=h.len;refine Cq.Zn p.length (λk s=>s=(fI p k,(k:Int))) (λk s a c=>?_) (λs c=>?_) rfl
 .subst c;refine Cq.wp.yes (p:=(k:Int)<(p.length:Int)) ŉ ?_;refine⟨p[k],Κ a,_,ZuT (h.at a).m,?_⟩;show _=_;rw[ψ ŉ];simp only[fI,Ą a]
 subst c;refine Cq.wp.no (p:=((p.length:Nat):Int)<(p.length:Int)) ŉ ?_;rfl
end Go.EL

namespace Go.EL
open Go.IntKind (i8 i16 i32 i64 u8 u16 u32 u64)
open Go Go.RowKit
def Ð(p:Ŀ Za)(n:Int):Bool:=if(Int.fdiv (i64.wrap (ï p)) (2 ^ (min (n).toNat i64.bits)))=0 then decide (gf p<=12)else false
theorem Znv{p:Ŀ Za}(h:ω p){n:Int}(a:0<=n):(Ks p n).Α (Ð p n):=by
 refine⟨true,DS h,_,Fz h.len,a,?_⟩;unfold Ð;rw[Cq.Zm];split
 .exact⟨_,yu h,rfl⟩
 rfl
theorem R8(a:M):∀k:Nat,k<=8->∀i:Fin 8,(Ú a k).toNat.testBit i.val=(decide (i.val<k)&&decide (0<a i))
 |0,_,i=>by simp[Ú]
 |k+1,g,i=>by
  have f:=R8 a k ŉ i;have c:=AG a k;have il:k<8:=ŉ;rw[ze]at c;simp only[Ú,Ÿ il];by_cases hi:i.val=k
  .have e:i=⟨k,il⟩:=abe hi;subst e;by_cases hp:0<a ⟨k,il⟩
   .rw[ą hp,ze,show(Ú a k+((2 ^ k:Nat):Int)).toNat=2 ^ k+(Ú a k).toNat by omega,Nat.testBit_two_pow_add_eq,dA ŉ];simp[hp]
   rw[ā hp,aaB];show(Ú a k).toNat.testBit k=_;rw[dA ŉ];simp[hp]
  have d:(decide (i.val<k+1))=decide (i.val<k):=by
   by_cases h:i.val<k
   .simp[h,show i.val<k+1 by omega]
   simp[h,show ¬i.val<k+1 by omega]
  rw[d,<-f];by_cases hp:0<a ⟨k,il⟩
  .rw[ą hp,ze,show(Ú a k+((2 ^ k:Nat):Int)).toNat=2 ^ k+(Ú a k).toNat by omega];by_cases h:i.val<k
   .rw[Nat.testBit_two_pow_add_gt h]
   rw[dA (x:=(Ú a k).toNat) (aam (by omega:(Ú a k).toNat<2 ^ k) (aaP ŉ ŉ))];refine dA (aam (by have:=c.2;omega:2 ^ k+(Ú a k).toNat<2 ^ (k+1)) (aaP ŉ ŉ))
  rw[ā hp,aaB]
theorem ZxB(a:M)(i:Fin 8):(jC a).toNat.testBit i.val=decide (0<a i):=by unfold jC;rw[R8 a 8 ŉ];simp[i.isLt]
theorem TP(a:M):0<=jC a/\jC a<256:=AG a 8
theorem VM{a b:Nat}(c:a<256)(d:b<256):u8.wrap (BitVec.ofInt u8.bits (a:Int) ||| BitVec.ofInt u8.bits (b:Int)).toNat=((a ||| b:Nat):Int):=by
 have h:(BitVec.ofInt u8.bits (a:Int) ||| BitVec.ofInt u8.bits (b:Int)).toNat=a ||| b:=by rw[BitVec.toNat_or];simp only[IntKind.bits,BitVec.toNat_ofInt];rw[show(((a:Int) % ((2 ^ 8:Nat):Int)).toNat)=a by omega,show(((b:Int) % ((2 ^ 8:Nat):Int)).toNat)=b by omega]
 have h2:a ||| b<256:=Nat.or_lt_two_pow (n:=8) c d
 rw[h];simp only[IntKind.wrap,IntKind.bits,IntKind.signed,Ŭ,Ś,aaM];omega
def jF(p:Ŀ Za):Nat->Nat
 |0=>0
 |k+1=>jF p k ||| (match p[k]? with|some t=>(jC t.m).toNat|none=>0)
theorem LY(p:Ŀ Za):∀k,jF p k<256
 |0=>by simp[jF]
 |k+1=>by
  refine Nat.or_lt_two_pow (n:=8) (LY p k) ?_;split
  .rename_i t _;have h:(jC t.m).toNat<256:=by have:=TP t.m;omega
   exact h
  decide
theorem Sa(p:Ŀ Za):∀k,hV p k=(jF p k:Int)
 |0=>rfl
 |k+1=>by
  have a:=LY p k;unfold hV jF;rw[Sa p k];cases p[k]? with
  |none=>exact VM (b:=0) a ŉ
  |some t=>
   have h:=TP t.m;obtain⟨n,c⟩:=aar h.1;show u8.wrap (BitVec.ofInt u8.bits (jF p k:Int) ||| BitVec.ofInt u8.bits (jC t.m)).toNat=((jF p k ||| (jC t.m).toNat:Nat):Int);rw[c];exact VM a ŉ
theorem S6(p:Ŀ Za)(i:Fin 8):∀k,(jF p k).testBit i.val=(p.take k).any λt=>decide (0<t.m i)
 |0=>by simp[jF]
 |k+1=>by
  simp only[jF,Nat.testBit_or,S6 p i k];cases h:p[k]? with
  |none=>
   have:p.length<=k:=aah.1 h;simp[ě this,ě (show p.length<=k+1 by omega)]
  |some t=>
   rw[List.take_add_one,h];simp[ZxB]
theorem S8(p:Ŀ Za):ï p=(jF p p.length:Int):=Sa p _
theorem S7(p:Ŀ Za)(i:Fin 8):(ï p).toNat.testBit i.val=p.any λt=>decide (0<t.m i):=by rw[S8,Ĕ,S6,Ĥ]
theorem tX(p:Ŀ Za):0<=ï p/\ï p<256:=by have:=LY p p.length;rw[S8];omega
theorem Zyb(u n:Nat):Int.fdiv (u:Int) ((2:Int) ^ n)=((u >>> n:Nat):Int):=by rw[Ű,show((2:Int) ^ n)=((2 ^ n:Nat):Int) by simp,aaf _ (Int.natCast_nonneg _)];simp
theorem ZvU(p:Ŀ Za){n:Int}(c:0<=n)(d:n<=8):Int.fdiv (i64.wrap (ï p)) (2 ^ (min (n).toNat i64.bits))=(((ï p).toNat >>> n.toNat:Nat):Int):=by have:=tX p;rw[wrap64 ŉ,show min n.toNat i64.bits=n.toNat by simp only[IntKind.bits];omega];obtain⟨u,a⟩:=aar this.1;rw[a];exact Zyb u _
theorem SK(p:Ŀ Za)(d:Int)(c:-1<=d):∀k,k<=p.length->(fI p k<=d↔∀i (h:i<p.length),i<k->fH p[i].m<=d)
 |0,_=>by simp[fI,c]
 |k+1,j=>by
  have f:=SK p d c k ŉ;have il:k<p.length:=ŉ;simp only[fI,Ą il];constructor
  .intro h i hi a;by_cases e:i=k
   .subst e;split at h<;>omega
   refine f.1 ?_ i hi ŉ;split at h<;>omega
  intro h;have g:=h k il ŉ;have h2:=f.2 λi hi a=>h i hi ŉ;split<;>omega
theorem tw{p:Ŀ Za}{d:Int}(a:-1<=d):gf p<=d↔∀t∈p,fH t.m<=d:=by
 unfold gf;rw[SK p d a p.length ŉ];constructor
 .intro h t c;obtain⟨i,hi,rfl⟩:=Ł.1 c;exact h i hi hi
 intro h i hi _;exact h _ (Ă hi)
def lC(n:Nat)(p:Ŀ Za):Prop:=∀t∈p,∀i:Fin 8,n<=i.val->¬0<t.m i
theorem yF{p:Ŀ Za}{n:Nat}:((ï p).toNat >>> n=0)↔lC n p:=by
 have e:=tX p;constructor
 .intro h t a i hi hp;have c:=S7 p i;rw[show(p.any λt=>decide (0<t.m i))=true from dO.2 ⟨t,a,ă hp⟩]at c;have h2:((ï p).toNat >>> n).testBit (i.val-n)=true:=by rw[Nat.testBit_shiftRight,show n+(i.val-n)=i.val by omega];exact c
  rw[h]at h2;simp at h2
 intro h;refine Nat.eq_of_testBit_eq λj=>?_;rw[Nat.testBit_shiftRight,Nat.zero_testBit];by_cases d:n+j<8
 .rw[S7 p ⟨n+j,d⟩];refine List.any_eq_false.2 λt a=>?_;simp only[Ě];exact h t a _ ß
 exact dA (aam (show(ï p).toNat<2 ^ 8 by omega) (aaP ŉ ŉ))
theorem pz{p:Ŀ Za}{n:Nat}(a:n<=8):Ð p (n:Int)=true↔lC n p/\∀t∈p,fH t.m<=12:=by
 unfold Ð;rw[ZvU p ŉ ŉ,Ĕ];by_cases h:(ï p).toNat >>> n=0
 .rw[ą (by rw[h];rfl),Ě,tw ŉ];exact⟨λk=>⟨yF.1 h,k⟩,λk=>k.2⟩
 rw[ā ŉ];exact⟨λk=>absurd k ĳ,λk=>absurd (yF.2 k.1) h⟩
end Go.EL

namespace Go.EL
open Go.IntKind (i8 i16 i32 i64 u8 u16 u32 u64)
open Go Go.RowKit
def jk(r:Zf):Int:=if r.num.neg=true then -(r.num.υ.headD 0)else r.num.υ.headD 0
theorem Li(c:Int):jk (ü c)=c:=by
 unfold jk ü;by_cases h:c<0
 .simp[h,show ¬c=0 by omega];omega
 by_cases a:c=0
 .simp[a]
 simp[h,a];omega
def ga:Ŀ Za->Za->Ŀ Za
 |[],t=>[t]
 |x::xs,t=>if 0<Û x.m t.m then x::ga xs t else if Û x.m t.m<0 then t::x::xs else if jk x.c+jk t.c=0 then xs else⟨ü (jk x.c+jk t.c),x.m⟩::xs
theorem Q9:∀(p:Ŀ Za) (t:Za),(ga p t).length<=p.length+1
 |[],_=>by simp[ga]
 |x::xs,t=>by
  have a:=Q9 xs t;simp only[ga];split
  .simp;omega
  split
  .simp
  split<;>simp;omega
theorem KV:∀(k:Nat) (p:Ŀ Za) (t:Za),k<=p.length->(∀x∈p.take k,0<Û x.m t.m)->ga p t=p.take k++ga (p.drop k) t
 |0,p,t,_,_=>by simp
 |k+1,[],t,h,_=>by simp at h
 |k+1,x::xs,t,h,a=>by have c:0<Û x.m t.m:=a x ß;rw[ga,ą c,KV k xs t (by simpa using h) (λy d=>a y (by simp[d]))];simp
def wI(p:Ŀ Za)(t:Za):Prop:=∀x∈p,x.m=t.m->∃a b,x.c=ü a/\t.c=ü b/\-12<=a/\a<=12/\-3<=b/\b<=3
theorem Zyn{p:Ŀ Za}{t x:Za}(h:wI p t)(i:x∈p)(g:x.m=t.m):(vr x.c t.c).Α (ü (jk x.c+jk t.c))/\∃s,(oB (ü (jk x.c+jk t.c))).Α s/\(s=0↔jk x.c+jk t.c=0):=by
 obtain⟨a,b,c,d,e,h2,h3,f⟩:=h x i g;rw[c,d,Li,Li];have j:=Zq (Zq Zzj e h2) h3 f;have k2:=Zq FK (x:=a+b) ŉ ŉ;refine⟨Zs j,_,Zs k2,?_⟩;split
 .omega
 split<;>omega
theorem Zs7{p:Ŀ Za}(d:p.length<=100):(Bg p []).Α p:=by
 show(Cq.next _ _).wp _;refine Cq.Zn p.length (λk s=>s=(p.take k,(k:Int),0)) (λk s c a=>?_) (λs a=>?_) ß
 .subst a;refine Cq.wp.yes (p:=(k:Int)<(p.length:Int)) ŉ ?_;unfold wT;rw[Cq.Zm,ą ß];unfold vi;rw[Cq.Zm,ą rfl];refine⟨p[k],Κ c,by simp[small];omega,?_⟩;show _=_;rw[ψ ŉ,ţ c]
 subst a;show(if((p.length:Nat):Int)<(p.length:Int)then _ else _:Cq _).wp _;rw[Cq.Zm,ā ŉ,Cq.Zm,ā ß];exact Ĥ
theorem QE{p:Ŀ Za}{t:Za}(y:p.length<=100)(u:wI p t):(Bg p [t]).Α (ga p t):=by
 show(Cq.next _ _).wp _;refine Cq.LI (λs=>(∃i:Nat,i<=p.length/\s=(p.take i,(i:Int),0)/\∀x∈p.take i,0<Û x.m t.m)\/(∃i:Nat,∃f:Ŀ Za,i<=p.length/\s=(f,(i:Int),1)/\f++p.drop i=ga p t/\f.length<=i+1))
  (λs=>(p.length-s.2.1.toNat)+(1-s.2.2.toNat)) (λs v=>?_) _ (.inl ⟨0,ŉ,ß,ß⟩)
 have m:i64.wrap 1=1:=ĳ;rcases v with ⟨i,hi,rfl,k⟩|⟨i,f,hi,rfl,l,q⟩
 .by_cases a:i<p.length
  .refine Cq.wp.yes (p:=(i:Int)<(p.length:Int)) ŉ ?_;unfold wT;rw[Cq.Zm,ā ß,Cq.Zm,ą ŉ];refine⟨p[i],Κ a,t,⟨ŉ,rfl⟩,_,Ai _ _,?_⟩;unfold vi;rw[Cq.Zm];have d:ga p t=p.take i++ga (p.drop i) t:=KV i p t hi k;have c:p.drop i=p[i]::p.drop (i+1):=ĭ a;by_cases g:0<Û p[i].m t.m
   .rw[ą (ă g)];refine⟨p[i],Κ a,by simp[small];omega,?_⟩;rw[ψ ŉ,ţ a];refine⟨.inl ⟨i+1,ŉ,rfl,λx pV=>?_⟩,ab0⟩;rw[<-ţ a]at pV;rcases Ĩ.1 pV with h|h
    .exact k x h
    rw[Ē]at h;subst h;exact g
   rw[ā (by simpa using g)];show(Ax p [t] 0 (p.take i) (i:Int)).wp _;unfold Ax;rw[Cq.Zm,ā ŉ];refine⟨p[i],Κ a,t,⟨ŉ,rfl⟩,_,Ai _ _,?_⟩;unfold Aw;rw[Cq.Zm];by_cases e:Û p[i].m t.m<0
   .rw[ą (ă e)];refine⟨t,⟨ŉ,rfl⟩,by simp[small];omega,?_⟩;refine⟨.inr ⟨i,_,hi,rfl,?_,ab0⟩,by simp[m]⟩;rw[d,c,ga,ā g,ą e];simp
   rw[ā (by simpa using e)];have r:p[i].m=t.m:=tZ ŉ;obtain⟨n,s,h2,h3⟩:=Zyn u (Ă a) r;unfold Km;refine⟨p[i],Κ a,t,⟨ŉ,rfl⟩,_,n,s,h2,?_⟩;rw[Cq.Zm];by_cases j:jk p[i].c+jk t.c=0
   .rw[ā (by simpa using h3.2 j)];rw[ψ ŉ];refine⟨.inr ⟨i+1,_,ŉ,rfl,?_,ab0⟩,ab0⟩;rw[d,c,ga,ā g,ā e,ą j]
   rw[ą (λh=>j (h3.1 h))];refine⟨p[i],Κ a,by simp[small];omega,?_⟩;rw[ψ ŉ];refine⟨.inr ⟨i+1,_,ŉ,rfl,?_,ab0⟩,ab0⟩;rw[d,c,ga,ā g,ā e,ā j];simp
  obtain rfl:i=p.length:=ŉ;show(if((p.length:Nat):Int)<(p.length:Int)then _ else _:Cq _).wp _;rw[Cq.Zm,ā ŉ,Cq.Zm,ą ß];unfold wT;rw[Cq.Zm,ā ß,Cq.Zm,ā ŉ];unfold vi;rw[Cq.Zm,ā ĳ];unfold Ax;rw[Cq.Zm,ą rfl];unfold Aw;rw[Cq.Zm,ą rfl];refine⟨t,⟨ŉ,rfl⟩,by simp[small];omega,?_⟩;refine⟨.inr ⟨p.length,_,ŉ,rfl,?_,ß⟩,by simp[m]⟩;rw[KV p.length p t ŉ k,aag];simp[ga]
 by_cases a:i<p.length
 .refine Cq.wp.yes (p:=(i:Int)<(p.length:Int)) ŉ ?_;unfold wT;rw[Cq.Zm,ą ß];unfold vi;rw[Cq.Zm,ą rfl];refine⟨p[i],Κ a,by simp[small];omega,?_⟩;rw[ψ ŉ];refine⟨.inr ⟨i+1,_,ŉ,rfl,?_,ab0⟩,ab0⟩;rw[<-l,ĭ a];simp
 obtain rfl:i=p.length:=ŉ;show(if((p.length:Nat):Int)<(p.length:Int)then _ else _:Cq _).wp _;rw[Cq.Zm,ā ŉ,Cq.Zm,ā ß];show _=_;rw[<-l,aag,Ę]
end Go.EL

namespace Go.EL
open Go.IntKind (i8 i16 i32 i64 u8 u16 u32 u64)
open Go Go.RowKit
structure Ë (π:M):Prop where
 ov:∀i,0<=π i/\π i<8
 inj:∀i j,π i=π j->i=j
def eb(π m:M):Nat->M
 |0=>λ_=>0
 |k+1=>if h:k<8 then ζ (eb π m k) (π ⟨k,h⟩).toNat (m ⟨k,h⟩)else eb π m k
def fx(π m:M):M:=eb π m 8
theorem Si{π:M}(h:Ë π)(m:M):∀k,k<=8->∀i:Fin 8,i.val<k->∀j:Fin 8,(j.val:Int)=π i->eb π m k j=m i
 |0,_,i,hi,_,_=>by omega
 |k+1,f,i,hi,j,c=>by
  have il:k<8:=ŉ;simp only[eb,Ÿ il,ζ];have r:=h.ov ⟨k,il⟩;by_cases e:i.val=k
  .have:i=⟨k,il⟩:=abe e;subst this;rw[ą ŉ]
  have d:π i≠π ⟨k,il⟩:=λa=>e (đ Fin.val (h.inj _ _ a));rw[ā ŉ];exact Si h m k ŉ i ŉ j c
theorem QP{π:M}(h:Ë π)(m:M):∀k,k<=8->∀j:Fin 8,(∀i:Fin 8,i.val<k->π i≠(j.val:Int))->eb π m k j=0
 |0,_,_,_=>rfl
 |k+1,c,j,a=>by have il:k<8:=ŉ;have r:=h.ov ⟨k,il⟩;have:=a ⟨k,il⟩ ß;simp only[eb,Ÿ il,ζ];rw[ā ŉ];exact QP h m k ŉ j λi hi=>a i ŉ
theorem Lg{π m:M}(a:Ok m):∀k,Ok (eb π m k)
 |0=>λ_=>by simp[eb]
 |k+1=>λj=>by
  simp only[eb];split
  .rename_i c;simp only[ζ];split
   .exact a _
   exact Lg a k j
  exact Lg a k j
theorem T8{π m:M}(a:Ok m):Ok (fx π m):=Lg a 8
theorem tW{π:M}(h:Ë π)(m:M)(i j:Fin 8)(a:(j.val:Int)=π i):fx π m j=m i:=Si h m 8 ŉ i i.isLt j a
theorem Lf{π:M}(h:Ë π){a b:M}(e:fx π a=fx π b):a=b:=by funext i;have r:=h.ov i;have c:=tW h a i ⟨(π i).toNat,ŉ⟩ ab0;have h2:=tW h b i ⟨(π i).toNat,ŉ⟩ ab0;rw[<-c,<-h2,e]
theorem K0(f:M)(x:Int)(q:Nat):∀k,k<=8->fD (ζ f q x) k=fD f k+(if h:q<8 then(if q<k then x-f ⟨q,h⟩else 0)else 0)
 |0,_=>by simp[fD]
 |k+1,d=>by
  have il:k<8:=ŉ;simp only[fD,Ÿ il,K0 f x q k ŉ,ζ];by_cases e:k=q
  .subst e;simp[il];omega
  rw[ā e];by_cases a:q<8
  .simp only[Ÿ a];by_cases c:q<k
   .rw[ą c,ą ŉ];omega
   rw[ā c,ā ŉ];omega
  simp only[dif_neg a];omega
theorem KZ{π:M}(h:Ë π)(m:M):fH (fx π m)=fH m:=by
 have key:∀k,k<=8->fH (eb π m k)=fD m k:=by
  intro k;induction k with
  |zero=>intro _;simp[eb,fH,fD]
  |succ k c=>
   intro e;have il:k<8:=ŉ;have r:=h.ov ⟨k,il⟩;have a:(π ⟨k,il⟩).toNat<8:=ŉ;simp only[eb,Ÿ il,fD];unfold fH at c⊢;rw[K0 _ _ _ 8 ŉ,Ÿ a,ą a,c ŉ];have:eb π m k ⟨(π ⟨k,il⟩).toNat,a⟩=0:=QP h m k ŉ _ λi hi d=>by
    have:π i=π ⟨k,il⟩:=by simp at d;omega
    have:=đ Fin.val (h.inj _ _ this);simp at this;omega
   rw[this];omega
 exact key 8 ŉ
theorem Zxg{π:M}(h:Ë π)(x:Za):(Pa π x (0,λ_=>0)).Α (fx π x.m):=by
 refine Cq.Zn 8 (λk s=>s=((k:Int),eb π x.m k)) (λk s a c=>?_) (λs c=>?_) rfl
 .subst c;have r:=h.ov ⟨k,a⟩;refine Cq.wp.yes (p:=(k:Int)<8) ŉ ?_;refine⟨ŉ,ŉ,by rw[Õ a];exact r,?_⟩;show _=_;rw[ψ ŉ,Õ a,Õ a];simp only[eb,Ÿ a]
 subst c;refine Cq.wp.no (p:=((8:Nat):Int)<8) ŉ ?_;rfl
theorem ZvK{π:M}(h:Ë π){p:Ŀ Za}{k:Nat}(d:k<p.length):(PD p π (k:Int) (0,λ_=>0)).Α (fx π p[k].m):=by
 refine Cq.Zn 8 (λj s=>s=((j:Int),eb π p[k].m j)) (λj s a c=>?_) (λs c=>?_) rfl
 .subst c;have r:=h.ov ⟨j,a⟩;refine Cq.wp.yes (p:=(j:Int)<8) ŉ ?_;refine⟨ŉ,p[k],Κ d,ŉ,by rw[Õ a];exact r,?_⟩;show _=_;rw[ψ ŉ,Õ a,Õ a];simp only[eb,Ÿ a]
 subst c;refine Cq.wp.no (p:=((8:Nat):Int)<8) ŉ ?_;rfl
theorem F9{π:M}(h:Ë π){k:Nat}(a:k<8){c:Fin 8->Bool}(d:∀j,c j=true->∃i:Fin 8,i.val<k/\(j.val:Int)=π i):¬Ε c (π ⟨k,a⟩)=true:=by
 have r:=h.ov ⟨k,a⟩;rw[y8 c (show(π ⟨k,a⟩).toNat<8 by omega)];intro e;obtain⟨i,f,h2⟩:=d _ e;have:π i=π ⟨k,a⟩:=by simp at h2;omega
 have:=đ Fin.val (h.inj _ _ this);simp at this;omega
theorem Fj{π:M}(h:Ë π){k:Nat}(c:k<8){d:Fin 8->Bool}(e:∀j,d j=true->∃i:Fin 8,i.val<k/\(j.val:Int)=π i):∀j,ζ d (π ⟨k,c⟩).toNat true j=true->∃i:Fin 8,i.val<k+1/\(j.val:Int)=π i:=by
 intro j a;have r:=h.ov ⟨k,c⟩;simp only[ζ]at a;split at a
 .exact⟨⟨k,c⟩,ß,ŉ⟩
 obtain⟨i,f,h2⟩:=e j a;exact⟨i,ŉ,h2⟩
theorem ZkU{π:M}(h:Ë π):(I7 π).Α true:=by
 show(Cq.next _ _).wp _;refine Cq.Zn 8 (λk s=>∃a:Fin 8->Bool,s=((k:Int),a)/\∀j,a j=true->∃i:Fin 8,i.val<k/\(j.val:Int)=π i) (λk s c e=>?_) (λs e=>?_) ⟨_,rfl,λj f=>by cases f⟩
 .obtain⟨a,rfl,d⟩:=e;have r:=h.ov ⟨k,c⟩;refine Cq.wp.yes (p:=(k:Int)<8) ŉ ?_;refine⟨ŉ,?_⟩;rw[Õ c,Cq.Zm,ā ŉ];refine⟨ŉ,?_⟩;rw[Cq.Zm,ā ŉ];refine⟨ŉ,r,?_⟩;rw[Cq.Zm,ā (F9 h c d)];refine⟨ŉ,r,?_⟩;rw[ψ ŉ];exact⟨_,rfl,Fj h c d⟩
 obtain⟨a,rfl,d⟩:=e;refine Cq.wp.no (p:=((8:Nat):Int)<8) ŉ ?_;rfl
end Go.EL

namespace Go.EL
open Go.IntKind (i8 i16 i32 i64 u8 u16 u32 u64)
open Go Go.RowKit
def jf(π:M)(t:Za):Za:=⟨t.c,fx π t.m⟩
def gA(π:M)(l:Ŀ Za):Ŀ Za:=l.foldl (λa t=>ga a (jf π t)) []
def à(π:M)(p:Ŀ Za):Ŀ Za:=gA π p
theorem ZxZ{p:Ŀ Za}{t:Za}:(∀x∈p,x.m≠t.m)->(ga p t).Perm (t::p):=by
 induction p with
 |nil=>intro _;exact lv _
 |cons x xs d=>
  intro h;have a:=h x ß;simp only[ga];split
  .exact ((d λy c=>h y (by simp[c])).cons x).trans (List.Perm.swap _ _ _)
  split
  .exact lv _
  exact absurd (tZ ŉ) a
theorem ZpN{a b c:M}(d:0<Û a b)(h2:0<Û b c):0<Û a c:=by have e:=tS a b;have k2:=tS b c;have k3:=tS a c;have:=JP (a:=c) (b:=b) (c:=a) ŉ ŉ (.inl ŉ);omega
abbrev jn(p:Ŀ Za):Prop:=p.Pairwise λx y=>0<Û x.m y.m
theorem Sx{p:Ŀ Za}{t:Za}:jn p->jn (ga p t)/\∀z,(∀x∈p,0<Û z x.m)->0<Û z t.m->∀y∈ga p t,0<Û z y.m:=by
 induction p with
 |nil=>intro _;exact⟨by simp[ga],λz _ h y a=>by simp[ga]at a;subst a;exact h⟩
 |cons x xs l=>
  intro g;obtain⟨e,h2⟩:=Į.1 g;obtain⟨k,i⟩:=l h2;simp only[ga];split
  .rename_i f;refine⟨Į.2 ⟨i _ e f,k⟩,λz c d y a=>?_⟩;rcases Ď.1 a with rfl|a
   .exact c _ ß
   exact i z (λw j=>c w (by simp[j])) d y a
  split
  .rename_i f;have nF:0<Û t.m x.m:=by have:=tS x.m t.m;omega
   refine⟨Į.2 ⟨λy a=>?_,g⟩,λz c d y a=>?_⟩
   .rcases Ď.1 a with rfl|a
    .exact nF
    exact ZpN nF (e y a)
   rcases Ď.1 a with rfl|a
   .exact d
   exact c y a
  split
  .exact⟨h2,λz c _ y a=>c y (by simp[a])⟩
  refine⟨Į.2 ⟨e,h2⟩,λz c _ y a=>?_⟩;rcases Ď.1 a with rfl|a
  .exact c x ß
  exact c y (by simp[a])
theorem QF(π:M)(l:Ŀ Za)(t:Za):gA π (l++[t])=ga (gA π l) (jf π t):=by simp[gA,abg]
theorem EJ{p:Ŀ Za}(h:jn p):p.Pairwise λx y=>x.m≠y.m:=h.imp λhp e=>by rw[e,AQ]at hp;omega
theorem KL{π:M}(h:Ë π){p:Ŀ Za}(d:jn p):∀k,k<=p.length->(gA π (p.take k)).Perm ((p.take k).map (jf π))/\jn (gA π (p.take k))
 |0,_=>by simp[gA]
 |k+1,l=>by
  obtain⟨c,h2⟩:=KL h d k ŉ;have il:k<p.length:=ŉ;rw[<-ţ il,QF];refine⟨?_,(Sx h2).1⟩;have a:∀x∈gA π (p.take k),x.m≠(jf π p[k]).m:=by intro x g e;obtain⟨y,j,rfl⟩:=Ğ.1 (c.mem_iff.1 g);have f:=Lf h e;obtain⟨i,hi,rfl⟩:=Ł.1 j;simp only[Č]at hi;rw[aae]at f;exact ħ.1 (EJ d) i k ŉ il ŉ f
  refine(ZxZ a).trans ?_;rw[ĩ];exact(c.cons _).trans (List.perm_append_comm (l₁:=[jf π p[k]]))
theorem q6{π:M}(h:Ë π){p:Ŀ Za}(a:jn p):(à π p).Perm (p.map (jf π))/\jn (à π p):=by have:=KL h a p.length ŉ;rwa [Ĥ]at this
theorem oD{π:M}(h:Ë π){p:Ŀ Za}(hp:ω p):ω (à π p):=by obtain⟨a,h2⟩:=q6 h hp.ord;refine⟨h2,λt d=>?_,by rw[a.length_eq,ć];exact hp.len⟩;obtain⟨y,c,rfl⟩:=Ğ.1 (a.mem_iff.1 d);exact⟨(hp.th y c).c,T8 (hp.th y c).m⟩
theorem Je{π:M}(h:Ë π){p:Ŀ Za}(hp:ω p):(Aj p π).Α (à π p,0):=by
 have l:=hp.len;refine⟨true,ZkU h,?_⟩;show(Cq.next _ _).wp _;refine Cq.Zn p.length (λk s=>s=(gA π (p.take k),(k:Int))) (λk s a c=>?_) (λs c=>?_) (by simp[gA])
 .subst c;obtain⟨d,h2⟩:=KL h hp.ord k ŉ;refine Cq.wp.yes (p:=(k:Int)<(p.length:Int)) ŉ ?_;refine(ZvK h a).then ?_;refine⟨p[k],Κ a,_,QE (by rw[d.length_eq,ć,Č];omega) (λx g e=>?_),?_⟩
  .obtain⟨y,j,rfl⟩:=Ğ.1 (d.mem_iff.1 g);have f:=Lf h e;obtain⟨i,hi,rfl⟩:=Ł.1 j;simp only[Č]at hi;rw[aae]at f;exact absurd f (ħ.1 (EJ hp.ord) i k ŉ a ŉ)
  show _=_;rw[ψ ŉ,<-ţ a,QF];rfl
 subst c;refine Cq.wp.no (p:=((p.length:Nat):Int)<(p.length:Int)) ŉ ?_;show _=_;rw[Ĥ];rfl
end Go.EL

namespace Go.EL
open Go.IntKind (i8 i16 i32 i64 u8 u16 u32 u64)
open Go Go.RowKit
theorem ZzU:(á 0 100 λn=>match(tO (u64.wrap n)).ev 30 with|some v=>decide (0<=v/\v<1000000)|none=>false)=true:=by decide +kernel
theorem ZzV{n:Nat}(h:n<=100):∃v,(tO (u64.wrap (n:Int))).Α v/\0<=v/\v<1000000:=by
 have:=Zq ZzU (x:=(n:Int)) ŉ ŉ;split at this
 .rename_i v a;have:=ĥ this;exact⟨v,Cq.Α.l8 30 a,this.1,this.2⟩
 cases this
theorem Zzs{p:Ŀ Za}(h:jn p){x y:Za}(d:x∈p)(f:y∈p)(e:x.m=y.m):x=y:=by
 obtain⟨i,hi,rfl⟩:=Ł.1 d;obtain⟨j,c,rfl⟩:=Ł.1 f;have key:=ħ.1 (EJ h);rcases aau i j with a|a|a
 .exact absurd e (key i j hi c a)
 .subst a;rfl
 exact absurd e.symm (key j i c hi a)
theorem SL{p:Ŀ Za}(h:jn p):p.Pairwise λx y=>¬Û x.m y.m<0:=h.imp λhp=>by omega
theorem R7{p ys:Ŀ Za}(c:jn p)(hp:ys.Perm p)(f:ys.Pairwise λx y=>¬Û x.m y.m<0):ys=p:=
 abl (le:=λx y:Za=>¬Û x.m y.m<0) (λa b d e g h2=>by
  have:=tS a.m b.m;exact Zzs c (hp.mem_iff.1 d) e (tZ ŉ)) f (SL c) hp
theorem Zrr{p l:Ŀ Za}(c:jn p)(f:p.length<=100)(hp:l.Perm p):(ZK l).Α p:=by have e:=hp.length_eq;obtain⟨v,a,h2,h3⟩:=ZzV (n:=l.length) ŉ;refine⟨v,a,p,?_,rfl⟩;refine⟨⟨rfl,rfl,⟨h2,h3⟩,ŉ⟩,λys ⟨d,k2⟩=>?_⟩;exact R7 c (d.trans hp) k2
def kR(q:M×Zf):Za:=⟨q.2,q.1⟩
theorem ZvW{p:Ŀ Za}(hp:ω p){D:Ŀ (M×Zf)}(j:(D.map kR).Perm p):(I9 D).Α p:=by
 have l:=hp.len;have e:=j.length_eq;rw[ć]at e;refine⟨⟨ŉ,ŉ⟩,?_⟩;show(Cq.next _ _).wp _;refine Cq.LI (λs=>(s.1++s.2.map kR).Perm p) (λs=>s.2.length) (λs d=>?_) _ (by simpa using j);obtain⟨rv,R⟩:=s;simp only at d;have c:=d.length_eq;simp only[Ā,ć]at c;refine⟨λi=>?_,λg q h i=>?_⟩
 .subst i;rw[Ő,Ę]at d;exact⟨_,Zrr hp.ord l d,rfl⟩
 subst i;have f:kR q∈p:=d.mem_iff.1 ß;obtain⟨s,k,h2⟩:=(hp.th _ f).ps;refine⟨s,k,?_⟩;rw[Cq.Zm,ą h2];simp only[Ā,ę]at c;refine⟨by simp[small];omega,?_,?_⟩
 .refine List.Perm.trans ?_ d;simp only[ĩ,Ġ,Đ,List.singleton_append];refine List.Perm.append_left rv ?_;exact(List.perm_middle (a:=kR q) (l₁:=g.map kR) (l₂:=h.map kR)).symm
 show(g++h).length<(g++q::h).length;simp
theorem ZBk{m:M}(h:Ok m):∀i,(Lit.int i64 (m i)).wf=true:=λi=>by have:=h i;simp only[Lit.wf,Ĉ,Ě];exact⟨x9 ĳ this.1,x9 this.2 ĳ⟩
def sI(π:M)(t:Za):M×Zf:=(fx π t.m,t.c)
theorem Qx{π:M}(h:Ë π){p:Ŀ Za}(hp:ω p):(DY p π).Α (à π p,0):=by
 have u:=hp.len;show(Cq.next _ _).wp _;refine Cq.Zn 8 (λk s=>∃f:Fin 8->Bool,s=((k:Int),f)/\∀j,f j=true->∃i:Fin 8,i.val<k/\(j.val:Int)=π i) (λk s a d=>?_) (λs d=>?_) ⟨_,rfl,λj m=>by cases m⟩
 .obtain⟨f,rfl,g⟩:=d;have r:=h.ov ⟨k,a⟩;refine Cq.wp.yes (p:=(k:Int)<8) ŉ ?_;refine⟨ŉ,?_⟩;rw[Õ a,Cq.Zm,ā ŉ,Cq.Zm,ā ŉ];refine⟨r,?_⟩;rw[Cq.Zm,ā (F9 h a g)];refine⟨r,?_⟩;rw[ψ ŉ];exact⟨_,rfl,Fj h a g⟩
 obtain⟨f,rfl,g⟩:=d;refine Cq.wp.no (p:=((8:Nat):Int)<8) ŉ ?_;show(Pb p π).wp _;show(Cq.next _ _).wp _;refine Cq.Zn p.length (λk s=>s=((k:Int),(p.take k).map (sI π))) (λk s a d=>?_) (λs d=>?_) ß
 .subst d;refine Cq.wp.yes (p:=(k:Int)<(p.length:Int)) ŉ ?_;refine⟨p[k],Κ a,?_⟩;refine(Zxg h p[k]).then ?_;have c:eS ((p.take k).map (sI π)) (fx π p[k].m) p[k].c=(p.take (k+1)).map (sI π):=by
   rw[FR,<-ţ a,ĩ]
   .rfl
   intro q n e;obtain⟨y,t,rfl⟩:=Ğ.1 n;have l:=Lf h e;obtain⟨i,hi,rfl⟩:=Ł.1 t;simp only[Č]at hi;rw[aae]at l;exact ħ.1 (EJ hp.ord) i k ŉ a ŉ l
  refine⟨⟨ZBk (T8 (hp.at a).m),?_⟩,?_⟩
  .rw[c,ć,Č];simp only[small];omega
  show _=_;rw[c,ψ ŉ]
 subst d;refine Cq.wp.no (p:=((p.length:Nat):Int)<(p.length:Int)) ŉ ?_;refine⟨à π p,ZvW (oD h hp) ?_,rfl⟩;rw[Ĥ,aaa];exact(q6 h hp.ord).1.symm
end Go.EL

namespace Go.EL
open Go.IntKind (i8 i16 i32 i64 u8 u16 u32 u64)
open Go Go.RowKit
theorem S9{n:Int}(a:-8<=n)(h2:n<=8):(ZX n).Α (ü n):=Zs (Zq ZxJ a h2)
theorem mul_zero(m:M):mulM (λ_=>0) m=m:=by funext i;simp[mulM]
theorem Zwf{c:Int}(g:-3<=c)(h2:c<=3){m:M}(f:Ok m):(K6 (ü c) [⟨ü 1,m⟩]).Α (if c=0 then[]else[⟨ü c,m⟩]):=by
 have d:=Zs (Zq FK (x:=c) ŉ ŉ);by_cases e:c=0
 .subst e;rw[ą rfl];refine⟨([],0),⟨_,d,?_⟩,rfl⟩;rw[Cq.Zm,ą ĳ];rfl
 rw[ā e];refine⟨([⟨ü c,m⟩],0),⟨_,d,?_⟩,rfl⟩;rw[Cq.Zm,ā (by split<;>first|omega|(split<;>omega))];show(Cq.next _ _).wp _;refine Cq.Zn 1 (λk s=>s=((if k=0 then[]else[⟨ü c,m⟩]),(k:Int))) (λk s i d=>?_) (λs d=>?_) rfl
 .obtain rfl:k=0:=ŉ;subst d;refine⟨⟨ü 1,m⟩,⟨ŉ,rfl⟩,(m,0),?_,?_⟩
  .have:=QA (a:=λ_=>0) (b:=m) (λ_=>⟨Ŝ 0,show(0:Int)<=65535 by decide⟩) f (by rw[mul_zero];exact f);rwa [mul_zero]at this
  rw[Cq.Zm,ā (λh=>h rfl)];exact⟨⟨ü 1,m⟩,⟨ŉ,rfl⟩,_,Zs (Zq Zz0 g h2),by simp[small],rfl⟩
 subst d;rfl
def iZ(x:Zu):Prop:=∀v∈x.t,∀j:Fin 5,-128<=v j/\v j<=127
structure gM (K:Int) (n:Nat) (d:Int) (k:Nat) (p:Ŀ Za):Prop where
 ord:jn p
 BD:∀t∈p,∃c:Int,t.c=ü c/\c≠0/\-K<=c/\c<=K
 xW:∀t∈p,(∀i,0<=t.m i)/\(∀i:Fin 8,n<=i.val->t.m i=0)/\fH t.m<=d
 len:p.length<=k
theorem LG{m:M}(h:∀i,0<=m i):∀k,k<=8->0<=fD m k/\∀i:Fin 8,i.val<k->m i<=fD m k
 |0,_=>by simp[fD]
 |k+1,c=>by
  obtain⟨a,h2⟩:=LG h k ŉ;have il:k<8:=ŉ;have:=h ⟨k,il⟩;simp only[fD,Ÿ il];refine⟨ŉ,λi hi=>?_⟩;by_cases e:i.val=k
  .have:i=⟨k,il⟩:=abe e;subst this;omega
  have:=h2 i ŉ;omega
theorem Sd{m:M}(h:∀i,0<=m i){d:Int}(a:fH m<=d)(h2:d<=65535):Ok m:=λi=>by have:=(LG h 8 ŉ).2 i i.isLt;unfold fH at a;exact⟨h i,ŉ⟩
theorem gM.hZ{K:Int}{n:Nat}{d:Int}{k:Nat}{p:Ŀ Za}(h:gM K n d k p)(i:K<=12)(j:d<=100)(l:k<=100):ω p:=
 ⟨h.ord,λt a=>⟨by obtain⟨c,e,f,g,h2⟩:=h.BD t a;exact⟨c,e,f,ŉ,ŉ⟩,Sd (h.xW t a).1 (h.xW t a).2.2 ŉ⟩,by have:=h.len;omega⟩
theorem TH{p:Ŀ Za}{t y:Za}:y∈ga p t->y∈p\/y=t\/∃x∈p,x.m=t.m/\jk x.c+jk t.c≠0/\y=⟨ü (jk x.c+jk t.c),x.m⟩:=by
 induction p with
 |nil=>intro h;simp[ga]at h;exact .inr (.inl h)
 |cons x xs e=>
  intro h;simp only[ga]at h;split at h
  .rcases Ď.1 h with rfl|h
   .exact .inl ß
   rcases e h with h|h|⟨z,c,h2⟩
   .exact .inl (by simp[h])
   .exact .inr (.inl h)
   exact .inr (.inr ⟨z,by simp[c],h2⟩)
  split at h
  .rcases Ď.1 h with rfl|h
   .exact .inr (.inl rfl)
   exact .inl h
  have d:x.m=t.m:=tZ ŉ;split at h
  .exact .inl (by simp[h])
  rename_i a;rcases Ď.1 h with rfl|h
  .exact .inr (.inr ⟨x,ß,d,a,rfl⟩)
  exact .inl (by simp[h])
theorem gM.add{K:Int}{n:Nat}{d:Int}{k:Nat}{p:Ŀ Za}(h:gM K n d k p){c:Int}{m:M}(y:0<=K)(r:c≠0)(v:-3<=c)(h2:c<=3)(s:(∀i,0<=m i)/\(∀i:Fin 8,n<=i.val->m i=0)/\fH m<=d):
  gM (K+3) n d (k+1) (ga p ⟨ü c,m⟩):=by
 refine⟨(Sx h.ord).1,λt g=>?_,λt g=>?_,by have:=Q9 p ⟨ü c,m⟩;have:=h.len;omega⟩
 .rcases TH g with g|rfl|⟨x,j,l,f,rfl⟩
  .obtain⟨a,e,q,u,k2⟩:=h.BD t g
   exact⟨a,e,q,ŉ,ŉ⟩
  .exact⟨c,rfl,r,ŉ,ŉ⟩
  obtain⟨a,e,q,u,k2⟩:=h.BD x j
  simp only[Li,e]at f⊢
  exact⟨a+c,rfl,f,ŉ,ŉ⟩
 rcases TH g with g|rfl|⟨x,j,l,f,rfl⟩
 .exact h.xW t g
 .exact s
 exact h.xW x j
theorem gM.grow{K K':Int}{n:Nat}{d:Int}{k k':Nat}{p:Ŀ Za}(h:gM K n d k p)(g:K<=K')(h2:k<=k'):gM K' n d k' p:=
 ⟨h.ord,λt c=>by obtain⟨a,e,f,i,k2⟩:=h.BD t c;exact⟨a,e,f,ŉ,ŉ⟩,h.xW,by have:=h.len;omega⟩
theorem gM.N4{K:Int}{n:Nat}{d:Int}{k:Nat}{p:Ŀ Za}(h:gM K n d k p)(i:K<=12){c:Int}{m:M}(f:-3<=c)(h2:c<=3):wI p ⟨ü c,m⟩:=λx g _=>by obtain⟨a,e,j,l,k2⟩:=h.BD x g;exact⟨a,c,e,rfl,ŉ,ŉ,f,h2⟩
def nO(n:Int):Int:=if n<0 then -n else n
theorem Zzi{n:Int}(a:-128<=n)(h2:n<=127):(F2 n).Α (nO n):=by
 unfold F2 nO;by_cases h:n<0
 .rw[ą h,ą h];show _=_;simp(disch:=omega) only[wrap64];omega
 rw[ā h,ā h];exact wrap64 ŉ
theorem Bf{a b:Int}(c:0<=a)(d:0<b):0<=Int.tmod a b/\Int.tmod a b<b:=by rw[œ c];exact⟨Int.emod_nonneg _ ŉ,Int.emod_lt_of_pos _ d⟩
theorem Dy{a:Int}(c:-128<=a)(h2:a<=127):-3<=Int.tmod a 4/\Int.tmod a 4<=3:=by
 by_cases h:0<=a
 .have:=Bf (b:=4) h ŉ;omega
 have:=Bf (a:=-a) (b:=4) ŉ ŉ;rw[Int.neg_tmod]at this;omega
def gk(v:Fin 5->Int)(d:Int):Nat->Int×M
 |0=>(d,λ_=>0)
 |j+1=>((gk v d j).1-Int.tmod (nO (Ε v ((j+1:Nat):Int))) ((gk v d j).1+1),ζ (gk v d j).2 j (Int.tmod (nO (Ε v ((j+1:Nat):Int))) ((gk v d j).1+1)))
theorem LS{v:Fin 5->Int}{d:Int}(a:0<=d):∀j,j<=4->0<=(gk v d j).1/\(∀i,0<=(gk v d j).2 i)/\(∀i:Fin 8,j<=i.val->(gk v d j).2 i=0)/\fH (gk v d j).2+(gk v d j).1=d
 |0,_=>⟨a,λ_=>Ŝ 0,λ_ _=>rfl,by simp[gk,fH,fD]⟩
 |j+1,h=>by
  obtain⟨g,c,h2,h3⟩:=LS (v:=v) a j ŉ;have e:0<=nO (Ε v ((j+1:Nat):Int)):=by unfold nO;split<;>omega
  have f:=Bf e (show 0<(gk v d j).1+1 by omega);simp only[gk];refine⟨ŉ,λi=>?_,λi hi=>?_,?_⟩
  .simp only[ζ];split
   .exact f.1
   exact c i
  .simp only[ζ];rw[ā ŉ];exact h2 i ŉ
  unfold fH at h3⊢;rw[K0 _ _ _ 8 ŉ,Ÿ ŉ,ą ŉ,h2 _ ß];omega
def qQ(v:Fin 5->Int)(d:Int)(n:Nat):M:=(gk v d n).2
theorem UA{v:Fin 5->Int}{d:Int}(c:0<=d){n:Nat}(e:n<=4):(∀i,0<=qQ v d n i)/\(∀i:Fin 8,n<=i.val->qQ v d n i=0)/\fH (qQ v d n)<=d:=by obtain⟨f,a,h2,h3⟩:=LS (v:=v) c n e;exact⟨a,h2,by unfold qQ;omega⟩
theorem Zv3{x:Zu}(t:iZ x){n:Nat}(D:n<=4){d:Int}(c:0<=d)(A:d<=100){k:Nat}(m:k<x.t.length):
  (Q0 x (n:Int) (k:Int) (d,0,λ_=>0)).Α (qQ x.t[k] d n):=by
 refine Cq.Zn n (λj s=>s=((gk x.t[k] d j).1,(j:Int),(gk x.t[k] d j).2)) (λj s B g=>?_) (λs g=>?_) rfl
 .subst g
  obtain⟨u,q,h2,h3⟩:=LS (v:=x.t[k]) c j ŉ
  have y:=(LG q 8 ŉ).1
  have f:j<8:=ŉ
  have hr:=t _ (Ă m)
  show(if(j:Int)<(n:Int)then _ else _:Cq _).wp _
  rw[Cq.Zm,ą ŉ,Cq.Zm,ą ŉ]
  have r:i64.wrap (1+(j:Int))=((j+1:Nat):Int):=by rw[wrap64 ŉ];omega
  have i:i64.wrap ((gk x.t[k] d j).1+1)=(gk x.t[k] d j).1+1:=wrap64 (by unfold fH at h3;omega)
  rw[r,i]
  have l:Ε x.t[k] ((j+1:Nat):Int)=x.t[k] ⟨j+1,ŉ⟩:=y8 _ ab0
  have C:=Bf (a:=nO (Ε x.t[k] ((j+1:Nat):Int))) (b:=(gk x.t[k] d j).1+1) (by unfold nO;split<;>omega) ŉ
  refine⟨x.t[k],Κ m,ŉ,_,Zzi (by rw[l];exact(hr _).1) (by rw[l];exact(hr _).2),ŉ,ŉ,ŉ,?_⟩
  show _=_
  have h:∀e:Int,Ε (ζ (gk x.t[k] d j).2 (j:Int).toNat e) (j:Int)=e:=λe=>by rw[Õ f];simp[ζ]
  rw[h,ψ ŉ,wrap64 (by unfold fH at h3;omega)]
  rfl
 subst g
 refine Cq.wp.no (p:=(n:Int)<(n:Int)) ŉ ?_
 rfl
def gP(x:Zu)(n:Nat)(d:Int):Nat->Ŀ Za
 |0=>[]
 |k+1=>match x.t[k]? with
  |some v=>if Int.tmod (Ε v 0) 4=0 then gP x n d k else ga (gP x n d k) ⟨ü (Int.tmod (Ε v 0) 4),qQ v d n⟩
  |none=>gP x n d k
theorem C1{x:Zu}(c:iZ x){v:Fin 5->Int}(a:v∈x.t):-3<=Int.tmod (Ε v 0) 4/\Int.tmod (Ε v 0) 4<=3:=by have:=c v a 0;rw[y8 v ĳ];exact Dy this.1 this.2
theorem KO{x:Zu}(g:iZ x){n:Nat}(f:n<=4){d:Int}(e:0<=d):∀k:Nat,gM (3*k) n d k (gP x n d k)
 |0=>⟨List.Pairwise.nil,λt a=>by simp[gP]at a,λt a=>by simp[gP]at a,by simp[gP]⟩
 |k+1=>by
  have c:=KO g f e k;simp only[gP];split
  .rename_i v i;have hr:=C1 g (Ņ i);split
   .exact c.grow ŉ ŉ
   rename_i h;exact(c.add ŉ h hr.1 hr.2 (UA e f)).grow ŉ ŉ
  exact c.grow ŉ ŉ
def iF(x:Zu)(n:Nat)(d:Int)(k:Nat):Ŀ Za:=gP x n d (min k x.t.length)
theorem Zyl{x:Zu}(e:iZ x){n:Nat}(c:n<=4){d:Int}(a:0<=d)(k:Nat):gM (3*k) n d k (iF x n d k):=(KO e c a _).grow ŉ ŉ
theorem Ls{x:Zu}(g:iZ x){n:Nat}(e:n<=4){d:Int}(a:0<=d)(p:d<=100){k:Nat}(t:k<=4):(A4 x (n:Int) d (k:Int)).Α (iF x n d k):=by
 refine Cq.Zn (min k x.t.length) (λj s=>s=(gP x n d j,(j:Int))) (λj s r f=>?_) (λs f=>?_) rfl
 .subst f;have ke:j<x.t.length:=ŉ;have m:=KO g e a j;have hr:=C1 g (Ă ke);show(if(j:Int)<(x.t.length:Int)then _ else _:Cq _).wp _;rw[Cq.Zm,ą ŉ,Cq.Zm,ą ŉ];show(Cq.next _ _).wp _;refine(Zv3 g e a p ke).then ?_;have q:i64.wrap (Int.tmod (Ε x.t[j] 0) 4)=Int.tmod (Ε x.t[j] 0) 4:=wrap64 ŉ;have l:=UA (v:=x.t[j]) a e;refine⟨x.t[j],Κ ke,_,(by rw[q];exact S9 ŉ ŉ),_,S9 ŉ ŉ,_,Zwf hr.1 hr.2 (Sd l.1 l.2.2 ŉ),?_⟩;have i:=m.len;by_cases c:Int.tmod (Ε x.t[j] 0) 4=0
  .rw[ą c];refine⟨_,Zs7 ŉ,?_⟩;show _=_;rw[ψ ŉ];simp only[gP,Ą ke,ą c]
  rw[ā c];refine⟨_,QE ŉ (m.N4 ŉ hr.1 hr.2),?_⟩;show _=_;rw[ψ ŉ];simp only[gP,Ą ke,ā c]
 subst f;show(if((min k x.t.length:Nat):Int)<(x.t.length:Int)then _ else _:Cq _).wp _;by_cases h:min k x.t.length<x.t.length
 .rw[Cq.Zm,ą ŉ,Cq.Zm,ā ŉ];rfl
 rw[Cq.Zm,ā ŉ];rfl
end Go.EL

namespace Go.EL
open Go.IntKind (i8 i16 i32 i64 u8 u16 u32 u64)
open Go Go.RowKit
theorem qD{x:Int}(h:0<=x/\x<18446744073709551616):u64.wrap x=x:=by simp only[IntKind.wrap,IntKind.bits,IntKind.signed,Ŭ,Ś,aaM];omega
def uF(x:Int):Ŀ Int:=if x=0 then[]else[x]
def ã(n:Int):Zg:=⟨decide (n<0),uF (n.natAbs:Int)⟩
theorem ZyD(n:Int):ü n=⟨ã n,⟨false,[1]⟩⟩:=by
 unfold ü ã uF;by_cases h:n=0
 .subst h;rfl
 rw[ā h,ā ŉ]
end Go.EL

namespace Go.EL
open Go.IntKind (i8 i16 i32 i64 u8 u16 u32 u64)
open Go Go.RowKit
theorem ZxT{a b:M}(f:Ok a)(g:Ok b)(d:Ok (mulM a b)):(Kb a b).Α (mulM a b,0):=by
 show(Cq.next _ _).wp _;refine Cq.Zn 8 (λk s=>s=((k:Int),lN k (mulM a b) a)) (λk s c e=>?_) (λs e=>?_) (by rw[Tf];rfl)
 .subst e;have h:=f ⟨k,c⟩;have h2:=g ⟨k,c⟩;rw[Cq.Zm,ą ŉ];refine⟨ŉ,ŉ,ŉ,?_⟩;show _=_;rw[ψ ŉ,Õ c,Õ c,VJ,wrap64 ŉ];exact đ (Prod.mk _) (Te (mulM a b) a c)
 subst e;rw[Cq.Zm,ā ŉ,U8 _ _ ŉ];exact⟨true,Sv d,rfl⟩
end Go.EL

namespace Go.EL
open Go.IntKind (i8 i16 i32 i64 u8 u16 u32 u64)
open Go Go.RowKit
def ó:Ŀ Za->Nat
 |[]=>0
 |t::p=>Nat.gcd (Í t.c).natAbs (ó p)
def jB(p:Ŀ Za):Int:=match p with
 |[]=>1
 |t::_=>if Í t.c<0 then -1 else 1
def fK(s:Int)(g:Nat)(c:Zf):Zf:=ü (s*(Í c / (g:Int)))
def Χ(p:Ŀ Za):Ŀ Za:=p.map λt=>⟨fK (jB p) (ó p) t.c,t.m⟩
theorem Zyj:(á 0 12 λa=>á (-12) 12 λb=>runs 60 (wZ (ã a) (ã b)) (ã (Nat.gcd a.natAbs b.natAbs:Nat)))=true:=by decide +kernel
theorem ZyJ:(á 0 12 λa=>á (-12) 12 λb=>runs 60 (xw (ã a) (ã b)) (ã (Nat.gcd a.natAbs b.natAbs:Nat)))=true:=by decide +kernel
theorem Zyk:(á 1 12 λg=>runs 60 (Ej (ã 1) (ã g)) (⟨ã 1,ã g⟩,0)&&runs 60 (Ej (ã (-1)) (ã g)) (⟨ã (-1),ã g⟩,0))=true:=by decide +kernel
theorem ZyK:(á 1 12 λg=>runs 60 (FZ (ã 1) (ã g)) (⟨ã 1,ã g⟩,0)&&runs 60 (FY ⟨ã 1,ã g⟩) ⟨ã (-1),ã g⟩)=true:=by decide +kernel
theorem ZwZ:(á 1 12 λg=>á (-12) 12 λn=>n == 0 || n % g != 0 || (runs 60 (Z7 ⟨ã 1,ã g⟩ (ü n)) (ü (1*(n / g)))&&runs 60 (Z7 ⟨ã (-1),ã g⟩ (ü n)) (ü (-1*(n / g)))))=true:=by decide +kernel
theorem Zxs:(á 1 12 λg=>á (-12) 12 λn=>n == 0 || n % g != 0 || (runs 60 (qZ ⟨ã 1,ã g⟩ (ü n)) (ü (1*(n / g)))&&runs 60 (qZ ⟨ã (-1),ã g⟩ (ü n)) (ü (-1*(n / g)))))=true:=by decide +kernel
theorem FQ:(wZ (ã 1) ⟨false,[1]⟩).Α (ã 1)/\(Ah ⟨false,[1]⟩ (ã 1)).Α (ã 1,ã 0,0)/\(EE (ã 1) (ã 1)).Α (ã 1)/\(yv (ã 1)).Α (ã (-1)):=⟨Cq.Α.l8 60 (by decide +kernel),Cq.Α.l8 60 (by decide +kernel),Cq.Α.l8 60 (by decide +kernel),Cq.Α.l8 60 (by decide +kernel)⟩
theorem FV:(xw (ã 1) ⟨false,[1]⟩).Α (ã 1)/\(yG ⟨false,[1]⟩ (ã 1)).Α (ã 1,ã 0,0)/\(qY (ã 1) (ã 1)).Α (ã 1)/\(yG (ã 1) ⟨false,[1]⟩).Α (ã 1,ã 0,0):=⟨Cq.Α.l8 60 (by decide +kernel),Cq.Α.l8 60 (by decide +kernel),Cq.Α.l8 60 (by decide +kernel),Cq.Α.l8 60 (by decide +kernel)⟩
theorem Zxr:(á (-12) 12 λn=>runs 60 (qY (ã n) (ã 1)) (ã n))=true:=by decide +kernel
theorem TN:(á 1 12 λg=>runs 60 (ZH ⟨ã 1,ã g⟩) 1&&runs 60 (ZH ⟨ã (-1),ã g⟩) (-1)&&runs 60 (oB ⟨ã 1,ã g⟩) 1&&runs 60 (oB ⟨ã (-1),ã g⟩) (-1))=true:=by decide +kernel
theorem ω.num{p:Ŀ Za}(h:ω p){t:Za}(d:t∈p):t.c=ü (Í t.c)/\Í t.c≠0/\-12<=Í t.c/\Í t.c<=12:=by
 obtain⟨⟨n,e,a,c,h2⟩,_⟩:=h.th t d;have:Í t.c=n:=by rw[e,py]
 rw[this];exact⟨e,a,c,h2⟩
theorem ω.parts{p:Ŀ Za}(h:ω p){t:Za}(a:t∈p):t.c.num=ã (Í t.c)/\t.c.den=⟨false,[1]⟩:=by
 obtain⟨⟨n,e,_⟩,_⟩:=h.th t a;have:Í t.c=n:=by rw[e,py]
 rw[this,e,ZyD];exact⟨rfl,rfl⟩
theorem ω.gp{p:Ŀ Za}(h:ω p):Ñ p=true:=by have f:=h.len;unfold Ñ;rw[Ĉ];refine⟨ă ŉ,Ć.2 λt d=>?_⟩;obtain⟨e,a,c,h2⟩:=h.num d;rw[e];exact Zvr a c h2
theorem Ff:∀{p:Ŀ Za}{t:Za},t∈p->ó p ∣ (Í t.c).natAbs
 |x::p,t,h=>by
  rcases Ď.1 h with rfl|h
  .exact Nat.gcd_dvd_left _ _
  exact Nat.dvd_trans (Nat.gcd_dvd_right _ _) (Ff h)
theorem xj{p:Ŀ Za}(h:ω p)(a:p≠[]):1<=ó p/\ó p<=12:=by
 match p,a with
 |t::p,_=>
  have c:=Ff (p:=t::p) (t:=t) ß;obtain⟨e,d,f,h2⟩:=h.num (t:=t) ß;have:=Nat.le_of_dvd ŉ c;have:=Nat.pos_of_dvd_of_pos c ŉ;omega
theorem xz{p:Ŀ Za}{t:Za}(a:t∈p):Í t.c % (ó p:Int)=0:=Int.emod_eq_zero_of_dvd (Int.ofNat_dvd_left.2 (Ff a))
theorem Mh(p:Ŀ Za):jB p=1\/jB p = -1:=by
 unfold jB;split
 .exact .inl rfl
 split
 .exact .inr rfl
 exact .inl rfl
theorem Ts(p:Ŀ Za)(k:Nat)(h:k<p.length):ó (p.take (k+1))=Nat.gcd (ó (p.take k)) (Í p[k].c).natAbs:=by
 rw[č h];generalize p.take k=l;generalize p[k]=t;induction l with
 |nil=>simp[ó]
 |cons x l a=>simp only[ĸ,ó,a];rw[Nat.gcd_assoc]
theorem Tr{p:Ŀ Za}(h:ω p)(k:Nat):ó (p.take k)<=12:=by
 by_cases a:p.take k=[]
 .rw[a];exact Ĝ _
 have e:∃t,t∈p.take k:=abb _ a;obtain⟨t,c⟩:=e;have d:=Ff c;obtain⟨_,f,g,h2⟩:=h.num (ś c);have:=Nat.le_of_dvd ŉ d;omega
theorem Va{m:M}(h:Ok m):Ok (mulM (λ_=>0) m):=by rw[mul_zero];exact h
theorem N9:Ok λ_=>0:=λ_=>⟨Ŝ 0,(by decide:(0:Int)<=65535)⟩
theorem RR{c:Zf}{f:Zf->Zf}{p:Ŀ Za}(j:p.length<=100)(e:∀t∈p,Ok t.m){s:Int}(d:(ZH c).Α s)(g:s≠0)(i:∀t∈p,(Z7 c t.c).Α (f t.c)):
  (Jm c (λ_=>0) p).Α (p.map λt=>⟨f t.c,t.m⟩,0):=by
 refine⟨s,d,Cq.wp.no g ⟨⟨ŉ,ŉ⟩,?_⟩⟩
 refine Cq.Zn p.length (λk s=>s=((p.take k).map λt=>⟨f t.c,t.m⟩,(k:Int))) (λk s a d=>?_) (λs d=>?_) rfl
 .subst d
  refine Cq.wp.yes ŉ ⟨p[k],Κ a,_,ZxT N9 (e _ (Ă a)) (Va (e _ (Ă a))),Cq.wp.no (λh=>h rfl) ⟨_,i _ (Ă a),?_,?_⟩⟩
  .simp only[Ā,ć,Č,ė,small];omega
  show _=_
  rw[ψ ŉ,mul_zero,č a,ĩ]
  rfl
 subst d
 refine Cq.wp.no ŉ ?_
 show _=_
 rw[ě (Ċ _)]
theorem RE{c:Zf}{f:Zf->Zf}{p:Ŀ Za}(j:p.length<=100)(e:∀t∈p,Ok t.m){s:Int}(d:(oB c).Α s)(g:s≠0)(i:∀t∈p,(qZ c t.c).Α (f t.c)):
  (Fs c (λ_=>0) p).Α (p.map λt=>⟨f t.c,t.m⟩,0):=by
 refine⟨s,d,Cq.wp.no g ?_⟩
 refine Cq.Zn p.length (λk s=>s=((p.take k).map λt=>⟨f t.c,t.m⟩,(k:Int))) (λk s a d=>?_) (λs d=>?_) rfl
 .subst d
  refine Cq.wp.yes ŉ ⟨p[k],Κ a,_,QA N9 (e _ (Ă a)) (Va (e _ (Ă a))),Cq.wp.no (λh=>h rfl) ⟨p[k],Κ a,_,i _ (Ă a),?_,?_⟩⟩
  .simp only[Ā,ć,Č,ė,small];omega
  show _=_
  rw[ψ ŉ,mul_zero,č a,ĩ]
  rfl
 subst d
 refine Cq.wp.no ŉ ?_
 show _=_
 rw[ě (Ċ _)]
theorem ω.mono{p:Ŀ Za}(h:ω p):∀t∈p,Ok t.m:=λt a=>(h.th t a).m
theorem Tu{p:Ŀ Za}(a:0<p.length):(p[0]'a)∈p:=Ă a
theorem S2{p:Ŀ Za}(a:0<p.length):jB p=if Í (p[0]'a).c<0 then -1 else 1:=by
 match p,a with
 |t::p,_=>rfl
theorem Kj{p:Ŀ Za}(h:ω p)(f:p≠[]):(Al p).Α (Χ p):=by
 have u:=h.len;have m:0<p.length:=Š.2 f;obtain⟨A,B⟩:=xj h f;refine Cq.wp.no ŉ ⟨ã 0,Cq.Α.l8 20 (by decide +kernel),ã 1,Cq.Α.l8 20 (by decide +kernel),?_⟩;show(PH p (0,ã 0,ã 1)).wp _;refine Cq.Zn p.length (λk s=>s=((k:Int),ã (ó (p.take k):Int),ã 1)) (λk s l c=>?_) (λs c=>?_) rfl
 .subst c;obtain⟨e,g,i,j⟩:=h.num (Ă l);obtain⟨y,r⟩:=h.parts (Ă l);have C:=Tr h k;have hr:=Zq (Zq Zyj (x:=(ó (p.take k):Int)) ŉ ŉ) i j;refine Cq.wp.yes ŉ ⟨p[k],Κ l,ã (Nat.gcd (ó (p.take k):Int).natAbs (Í p[k].c).natAbs:Nat),(by rw[y];exact Zs hr),ã 1,(by rw[r];exact FQ.1),(ã 1,ã 0,0),(by rw[r];exact FQ.2.1),ã 1,FQ.2.2.1,?_⟩;show _=_;rw[ψ ŉ,Ts p k l];simp only[aa7]
 subst c;refine Cq.wp.no ŉ ?_;rw[ě (Ċ _)];show(JC p (ã (ó p:Int)) (ã 1)).Α _;unfold JC;obtain⟨e,g,i,j⟩:=h.num (Tu m);have c:=Zq S1 i j;rw[show(Í p[0].c == 0)=false by simpa using g,ļ]at c;have n:=Zq Zyk (x:=(ó p:Int)) ŉ ŉ;have q:=Zq TN (x:=(ó p:Int)) ŉ ŉ;simp only[Ĉ]at n q;have v:∀t∈p,(Z7 ⟨ã 1,ã (ó p:Int)⟩ t.c).Α (fK 1 (ó p) t.c)/\(Z7 ⟨ã (-1),ã (ó p:Int)⟩ t.c).Α (fK (-1) (ó p) t.c):=λt d=>by obtain⟨e,g,i,j⟩:=h.num d;have:=Zq (Zq ZwZ (x:=(ó p:Int)) ŉ ŉ) i j;rw[show(Í t.c == 0)=false by simpa using g,show(Í t.c % (ó p:Int) != 0)=false by simpa using xz d,ļ,ļ,Ĉ]at this;unfold fK;rw[e,py];exact⟨Zs this.1,Zs this.2⟩
 refine⟨p[0],⟨ŉ,by simp[m]⟩,_,(by rw[e];exact Zs c),?_⟩;unfold Χ;rw[S2 m];by_cases a:Í p[0].c<0
 .rw[ą a,ą a];refine Cq.wp.yes ĳ ⟨_,FQ.2.2.2,?_⟩;exact⟨_,Zs n.2,_,RR u h.mono (Zs q.1.1.2) ĳ (λt d=>(v t d).2),rfl⟩
 rw[ā a,ā a,ā g];refine Cq.wp.no ĳ ?_;exact⟨_,Zs n.1,_,RR u h.mono (Zs q.1.1.1) ĳ (λt d=>(v t d).1),rfl⟩
theorem PE{p:Ŀ Za}(h:ω p):(EW p).Α (Χ p):=by
 have v:=h.len;by_cases f:p=[]
 .subst f;exact Cq.wp.yes rfl rfl
 have n:0<p.length:=Š.2 f;obtain⟨A,B⟩:=xj h f;refine Cq.wp.no ŉ ⟨ã 1,Cq.Α.l8 20 (by decide +kernel),ã 0,Cq.Α.l8 20 (by decide +kernel),?_⟩;refine Cq.Zn p.length (λk s=>s=((k:Int),ã 1)) (λk s c d=>?_) (λs d=>?_) rfl
 .subst d;obtain⟨e,l,i,j⟩:=h.num (Ă c);obtain⟨u,m⟩:=h.parts (Ă c);refine Cq.wp.yes ŉ ⟨p[k],Κ c,p[k],Κ c,ã 1,(by rw[m];exact FV.1),(ã 1,ã 0,0),(by rw[m];exact FV.2.1),ã 1,FV.2.2.1,?_⟩;show _=_;rw[ψ ŉ]
 subst d;refine Cq.wp.no ŉ ?_;show(P1 p (ã 0) (ã 1)).Α _;refine Cq.Zn p.length (λk s=>s=((k:Int),ã (ó (p.take k):Int))) (λk s c d=>?_) (λs d=>?_) rfl
 .subst d;obtain⟨e,l,i,j⟩:=h.num (Ă c);have C:=Tr h k;have hr:=Zq (Zq ZyJ (x:=(ó (p.take k):Int)) ŉ ŉ) i j;obtain⟨u,m⟩:=h.parts (Ă c);refine Cq.wp.yes ŉ ⟨p[k],Κ c,(ã 1,ã 0,0),(by rw[m];exact FV.2.2.2),p[k],Κ c,ã (Í p[k].c),(by rw[u];exact Zs (Zq Zxr i j)),ã (Nat.gcd (ó (p.take k):Int).natAbs (Í p[k].c).natAbs:Nat),Zs hr,?_⟩;show _=_;rw[ψ ŉ,Ts p k c];simp only[aa7]
 subst d;refine Cq.wp.no ŉ ?_;rw[ě (Ċ _)];show(Jp p (ã 1) (ã (ó p:Int))).Α _;unfold Jp;obtain⟨e,l,i,j⟩:=h.num (Tu n);have d:=Zq FK (x:=Í p[0].c) ŉ ŉ;have q:=Zq ZyK (x:=(ó p:Int)) ŉ ŉ;have r:=Zq TN (x:=(ó p:Int)) ŉ ŉ;simp only[Ĉ]at q r;have y:∀t∈p,(qZ ⟨ã 1,ã (ó p:Int)⟩ t.c).Α (fK 1 (ó p) t.c)/\(qZ ⟨ã (-1),ã (ó p:Int)⟩ t.c).Α (fK (-1) (ó p) t.c):=λt g=>by obtain⟨e,l,i,j⟩:=h.num g;have:=Zq (Zq Zxs (x:=(ó p:Int)) ŉ ŉ) i j;rw[show(Í t.c == 0)=false by simpa using l,show(Í t.c % (ó p:Int) != 0)=false by simpa using xz g,ļ,ļ,Ĉ]at this;unfold fK;rw[e,py];exact⟨Zs this.1,Zs this.2⟩
 refine⟨_,Zs q.1,p[0],⟨ŉ,by simp[n]⟩,_,(by rw[e];exact Zs d),?_⟩;unfold Χ;rw[S2 n];by_cases a:Í p[0].c<0
 .rw[ą a,ą a];refine Cq.wp.yes ĳ ⟨_,Zs q.2,?_⟩;exact⟨_,RE v h.mono (Zs r.2) ĳ (λt g=>(y t g).2),rfl⟩
 rw[ā a,ā a,ā l];refine Cq.wp.no ĳ ?_;exact⟨_,RE v h.mono (Zs r.1.2) ĳ (λt g=>(y t g).1),rfl⟩
end Go.EL

namespace Go.EL
open Go.IntKind (i8 i16 i32 i64 u8 u16 u32 u64)
open Go Go.RowKit
theorem LM(s:Int)(g:Nat)(c:Zf):Í (fK s g c)=s*(Í c / (g:Int)):=py _
theorem Mo{n:Int}{g:Nat}(d:1<=g)(c:n % (g:Int)=0)(a:n≠0):n / (g:Int)≠0:=λh=>by have:=dU n g;rw[h,c]at this;simp at this;exact a this.symm
theorem YO{n:Int}{g:Nat}(c:1<=g)(a:-12<=n)(h2:n<=12):-12<=n / (g:Int)/\n / (g:Int)<=12:=by refine⟨(Int.le_ediv_iff_mul_le ŉ).2 ?_,x9 (Int.ediv_le_ediv ŉ h2) (Int.ediv_le_self _ ĳ)⟩;have:(g:Int)*12 ≥ 12:=ŉ;omega
theorem LQ(p:Ŀ Za):(Χ p).length=p.length:=ć _
theorem Bb{p:Ŀ Za}:Χ p=[]↔p=[]:=by unfold Χ;simp
theorem Zyz{p:Ŀ Za}{t:Za}(h:t∈Χ p):∃x∈p,t=⟨fK (jB p) (ó p) x.c,x.m⟩:=by obtain⟨x,a,h2⟩:=Ğ.1 h;exact⟨x,a,h2.symm⟩
theorem vv{p:Ŀ Za}(h:ω p):ω (Χ p) where
 ord:=by unfold Χ;rw[ej];exact h.ord
 th:=λt f=>by
  obtain⟨x,a,rfl⟩:=Zyz f;have c:p≠[]:=λe=>by rw[e]at a;cases a
  obtain⟨d,l⟩:=xj h c;obtain⟨e,i,j,k⟩:=h.num a;have m:=Mo d (xz a) i;obtain⟨n,q⟩:=YO (g:=ó p) d j k;refine⟨⟨_,rfl,?_,?_,?_⟩,h.mono x a⟩;all_goals rcases Mh p with s|s<;>rw[s]<;>omega
 len:=by rw[LQ];exact h.len
theorem R3(p:Ŀ Za):∀k,fI (Χ p) k=fI p k
 |0=>rfl
 |k+1=>by unfold fI;rw[R3 p k];unfold Χ;rw[aaA];cases p[k]?<;>rfl
theorem xr(p:Ŀ Za):gf (Χ p)=gf p:=by unfold gf;rw[LQ,R3]
theorem QQ(p:Ŀ Za):∀k,hV (Χ p) k=hV p k
 |0=>rfl
 |k+1=>by unfold hV;rw[QQ p k];unfold Χ;rw[aaA];cases p[k]?<;>rfl
theorem Zxk(p:Ŀ Za):ï (Χ p)=ï p:=by unfold ï;rw[LQ,QQ]
theorem T9(p:Ŀ Za)(n:Int):Ð (Χ p) n=Ð p n:=by unfold Ð;rw[Zxk,xr]
theorem K1{s:Int}(c:s=1\/s = -1){g:Nat}(e:1<=g):∀{p:Ŀ Za},(∀t∈p,Í t.c % (g:Int)=0)->ó (p.map λt=>⟨fK s g t.c,t.m⟩)*g=ó p
 |[],_=>dw _
 |t::p,h=>by
  have j:=K1 c e (p:=p) (λx i=>h x (by simp[i]));have f:=h t ß;simp only[Ġ,ó];rw[<-j,<-Nat.gcd_mul_right,LM];congr 1;have d:(s*(Í t.c / (g:Int))).natAbs=(Í t.c / (g:Int)).natAbs:=by rcases c with rfl|rfl<;>simp
  rw[d];have a:=dU (Í t.c) g;rw[f,aaB]at a;rw[<-a,Int.natAbs_mul,a,aa7,abw]
theorem Zyy{p:Ŀ Za}(h:ω p)(a:p≠[]):ó (Χ p)=1:=by obtain⟨c,e⟩:=xj h a;have:=K1 (Mh p) c (p:=p) (λt d=>xz d);exact Nat.eq_of_mul_eq_mul_right c (by rw[Nat.one_mul];exact this)
theorem ZyA{p:Ŀ Za}(h:ω p):jB (Χ p)=1:=by
 match p,h with
 |[],_=>rfl
 |t::q,h=>
  obtain⟨e,j,l,m⟩:=h.num (t:=t) ß;obtain⟨i,k⟩:=xj h ß;have c:=xz (p:=t::q) (t:=t) ß;show(if Í (fK _ _ t.c)<0 then(-1:Int)else 1)=1;rw[LM,ā];have n:=Mo i c j;have f:=dU (Í t.c) (ó (t::q));rw[c,aaB]at f;unfold jB;dsimp only;generalize ó (t::q)=g at *;generalize Í t.c / (g:Int)=z at *;by_cases d:Í t.c<0
  .rw[ą d];have:¬0<z:=λa=>by
    have:=Int.mul_pos (show(0:Int)<(g:Int) by omega) a;omega
   omega
  rw[ā d];have:¬z<0:=λa=>by have:=abc (show(0:Int)<(g:Int) by omega) a;omega
  omega
theorem Zz9{p:Ŀ Za}(h:ω p){t:Za}(a:t∈p):fK 1 1 t.c=t.c:=by obtain⟨e,_⟩:=h.num a;unfold fK;rw[aas,Int.natCast_one,Int.ediv_one];exact e.symm
theorem Sm{p:Ŀ Za}(h:ω p):Χ (Χ p)=Χ p:=by
 by_cases a:p=[]
 .subst a;rfl
 have c:=vv h;show(Χ p).map (λt=>(⟨fK (jB (Χ p)) (ó (Χ p)) t.c,t.m⟩:Za))=Χ p;rw[Zyy h a,ZyA h];refine(ŭ λt d=>?_).trans (List.map_id _);rw[Zz9 c d];rfl
def hK(l:Ŀ (Ŀ Za)):Prop:=l.Pairwise λa b=>ì a b<0
theorem QU:∀{l m:Ŀ (Ŀ Za)},hK l->hK m->(∀x,x∈l↔x∈m)->l=m
 |[],[],_,_,_=>rfl
 |[],y::m,_,_,h=>by have:=(h y).2 ß;cases this
 |x::l,[],_,_,h=>by have:=(h x).1 ß;cases this
 |x::l,y::m,i,h2,h=>by
  obtain⟨a1,a2⟩:=Į.1 i;obtain⟨d,g⟩:=Į.1 h2;have e:x=y:=by
   rcases Ď.1 ((h x).1 ß)with e|n
   .exact e
   rcases Ď.1 ((h y).2 ß)with e|p
   .exact e.symm
   have q:=d x n;have r:=a1 y p;have:=qC x y;omega
  subst e;have f:∀{z:Ŀ Za}{k:Ŀ (Ŀ Za)},(∀a∈k,ì z a<0)->z ∉ k:=λj c=>by have:=j _ c;rw[xi]at this;omega
  rw[QU a2 g λz=>⟨λc=>?_,λc=>?_⟩]
  .rcases Ď.1 ((h z).1 (by simp[c]))with e|tJ
   .subst e;exact absurd c (f a1)
   exact tJ
  rcases Ď.1 ((h z).2 (by simp[c]))with e|tJ
  .subst e;exact absurd c (f d)
  exact tJ
theorem Ti:∀{l:Ŀ (Ŀ Za)}{x:Ŀ Za},(x::l).Pairwise (λa b=>ì a b<=0)->(∀p∈x::l,Ñ p=true)->hK (x::jN x l)/\∀z,z∈x::jN x l↔z∈x::l
 |[],x,_,_=>⟨ũ _ _,λ_=>Iff.rfl⟩
 |y::l,x,h,d=>by
  obtain⟨a1,a2⟩:=Į.1 h;obtain⟨f,g⟩:=Ti a2 (λp hp=>d p (by simp at hp⊢;exact .inr hp));unfold jN;by_cases e:ì y x=0
  .rw[ą e];have:y=x:=AR (d y ß) (d x ß) e;subst this;refine⟨f,λz=>?_⟩;rw[g z];simp
  rw[ā e];have c:ì x y<0:=by have:=a1 y ß;have:=qC x y;omega
  refine⟨Į.2 ⟨λz i=>?_,f⟩,λz=>?_⟩
  .rcases Ď.1 i with rfl|tJ
   .exact c
   exact(yJ x y z ŉ (by have:=(Į.1 f).1 z tJ;omega)).2 (.inl c)
  have:=g z;simp only[Ď]at this⊢;rw[this]
def ef(l:Ŀ (Ŀ Za)):Ŀ (Ŀ Za):=gd (jx l)
theorem FL{l:Ŀ (Ŀ Za)}(d:∀p∈l,Ñ p=true):hK (ef l)/\∀z,z∈ef l↔z∈l:=by
 have a:∀z,z∈jx l↔z∈l:=λz=>(vh l).mem_iff;have c:=Kq l;unfold ef;generalize jx l=m at *;match m,a,c with
 |[],a,_=>exact⟨List.Pairwise.nil,a⟩
 |x::m,a,c=>
  obtain⟨e,f⟩:=Ti c (λp hp=>d p ((a p).1 hp));exact⟨e,λz=>(f z).trans (a z)⟩
theorem VH{l m:Ŀ (Ŀ Za)}(a:∀p∈l,Ñ p=true)(c:hK m)(h:∀z,z∈m↔z∈l):m=ef l:=by obtain⟨d,e⟩:=FL a;exact QU c d λz=>(h z).trans (e z).symm
theorem Gb(l:Ŀ (Ŀ Za)):(ef l).length<=l.length:=ń Th (aaV (vh l).length_eq)
end Go.EL

namespace Go.EL
open Go.IntKind (i8 i16 i32 i64 u8 u16 u32 u64)
open Go Go.RowKit
theorem Zxo:(á (-12) 12 λa=>a == 0 || á (-12) 12 λb=>b == 0 || runs 40 (vt (ü a) (ü b)) (if a<b then -1 else if a=b then 0 else 1))=true:=by decide +kernel
theorem ZvP:(á (-12) 12 λa=>a == 0 || á (-12) 12 λb=>b == 0 || runs 40 (A3 (ü a) (ü b)) (decide (a=b)))=true:=by decide +kernel
theorem SV{a b:Zf}(c:fk a=true)(d:fk b=true):(vt a b).Α (gZ a b):=by obtain⟨m,rfl,e,f,g⟩:=tU c;obtain⟨n,rfl,i,j,k⟩:=tU d;have h:=Zq Zxo f g;rw[show(m == 0)=false by simpa using e,ļ]at h;have h':=Zq h j k;rw[show(n == 0)=false by simpa using i,ļ]at h';unfold gZ;rw[py,py];exact Zs h'
theorem Zvd{a b:Zf}(c:fk a=true)(d:fk b=true):(A3 a b).Α (decide (gZ a b=0)):=by
 obtain⟨m,rfl,f,g,i⟩:=tU c;obtain⟨n,rfl,j,k,l⟩:=tU d;have h:=Zq ZvP g i;rw[show(m == 0)=false by simpa using f,ļ]at h;have h':=Zq h k l;rw[show(n == 0)=false by simpa using j,ļ]at h';have e:decide (gZ (ü m) (ü n)=0)=decide (m=n):=by
  unfold gZ;rw[py,py];by_cases e:m=n
  .subst e;simp
  rw[ĉ e,ĉ];split
  .decide
  decide
 rw[e];exact Zs h'
theorem Sn{p q:Ŀ Za}(hp:Ñ p=true)(l:Ñ q=true):(F1 p q).Α (ì p q):=by
 have t:=vg hp;have u:=vg l;refine(Ry p q 0).mono (p:=λo=>match o with|.inl v=>v=ì p q|.inr ()=>∃k,(k=p.length\/k=q.length)/\k<=p.length/\k<=q.length/\ì p q=ì (p.drop k) (q.drop k)) (λo h=>?_) (Cq.Zn p.length (λk s=>s=(k:Int)/\k<=p.length/\k<=q.length/\ì p q=ì (p.drop k) (q.drop k)) ?_ ?_ ⟨rfl,Ĝ _,Ĝ _,rfl⟩)
 .match o,h with
  |.inl v,h=>exact h
  |.inr (),⟨k,r,i,h2,h3⟩=>
   show(Kn p q).Α _;unfold Kn;rw[h3];by_cases m:p.length<q.length
   .refine Cq.wp.yes ŉ ?_;have:k=p.length:=ŉ;subst this;show(-1:Int)=_;rw[Ķ (Ċ _),ĭ m];rfl
   refine Cq.wp.no ŉ ?_;have:k=q.length:=ŉ;subst this;by_cases n:q.length<p.length
   .refine Cq.wp.yes ŉ ?_;show(1:Int)=_;rw[Ķ (Ċ q.length),ĭ n];rfl
   refine Cq.wp.no ŉ ?_;show(0:Int)=_;rw[Ķ (Ċ q.length),Ķ ŉ];rfl
 .rintro k s d ⟨rfl,i,h2,h3⟩;refine Cq.wp.yes ŉ ?_;by_cases a:k<q.length
  .refine Cq.wp.yes ŉ ?_;have c:=Fa p q d a;show(Rz p q (k:Int)).wp _;refine⟨_,Κ d,_,Κ a,_,Ai _ _,?_⟩;by_cases g:p[k].m=q[k].m
   .refine Cq.wp.no (by rw[g,AQ];simp) ⟨_,Κ d,_,Κ a,_,SV (tz hp d) (tz l a),?_⟩;have j:fA p[k] q[k]=gZ p[k].c q[k].c:=ą g;rw[j]at c;by_cases e:gZ p[k].c q[k].c=0
    .rw[ą e]at c;refine Cq.wp.no ŉ ?_;exact⟨ψ ŉ,ŉ,ŉ,h3.trans c⟩
    rw[ā e]at c;refine Cq.wp.yes e ⟨_,Κ d,_,Κ a,_,SV (tz hp d) (tz l a),?_⟩;exact(h3.trans c).symm
   have f:¬Û p[k].m q[k].m=0:=λe=>g (tZ e);have j:fA p[k] q[k]=Û p[k].m q[k].m:=ā g;rw[j,ā f]at c;refine Cq.wp.yes f ⟨_,Κ d,_,Κ a,_,Ai _ _,?_⟩;exact(h3.trans c).symm
  refine Cq.wp.no ŉ ?_;exact⟨k,.inr ŉ,i,h2,h3⟩
 rintro s ⟨rfl,i,h2,h3⟩;refine Cq.wp.no ŉ ?_;exact⟨p.length,.inl rfl,i,h2,h3⟩
theorem Zvc{s t:Za}(a:fk s.c=true)(c:fk t.c=true):(Ep s t).Α (decide (fA s t=0)):=by
 unfold Ep fA;by_cases h:s.m=t.m
 .refine Cq.wp.yes h ?_;simp only[ą h];exact⟨_,Zvd a c,rfl⟩
 refine Cq.wp.no h ?_;simp only[ā h];show false=_;have:¬Û s.m t.m=0:=λe=>h (tZ e);simp[this]
theorem Kf{p q:Ŀ Za}(hp:Ñ p=true)(f:Ñ q=true):(tQ p q).Α (decide (ì p q=0)):=by
 have j:=vg hp;have l:=vg f;by_cases i:p.length=q.length
 .refine Cq.wp.no ŉ ?_;refine(Q2 p q 0).mono (p:=λo=>match o with|.inl v=>v=decide (ì p q=0)|.inr ()=>ì p q=0) (λo h=>?_) (Cq.Zn p.length (λk s=>s=(k:Int)/\k<=p.length/\ì p q=ì (p.drop k) (q.drop k)) ?_ ?_ ⟨rfl,Ĝ _,rfl⟩)
  .match o,h with
   |.inl v,h=>exact h
   |.inr (),h=>show true=_;rw[ă h]
  .rintro k s d ⟨rfl,g,h3⟩;have a:k<q.length:=ŉ;refine Cq.wp.yes ŉ ⟨_,Κ d,_,Κ a,_,Zvc (tz hp d) (tz f a),?_⟩;have c:=Fa p q d a;by_cases e:fA p[k] q[k]=0
   .rw[ą e]at c;rw[ă e];refine Cq.wp.no ĳ ?_;exact⟨ψ ŉ,ŉ,h3.trans c⟩
   rw[ā e]at c;rw[ĉ e];refine Cq.wp.yes ĳ ?_;show false=_;rw[h3,c,ĉ e]
  rintro s ⟨rfl,g,h3⟩;refine Cq.wp.no ŉ ?_;show ì p q=0;rw[h3,Ķ (Ċ _),Ķ ŉ];rfl
 refine Cq.wp.yes ŉ ?_;show false=_;rw[ĉ (λh=>i (LD h))]
def gW(plain:Bool)(q:Ŀ Za):Bool:=!q.isEmpty&&!(plain&&decide (gf q=0))
theorem Zyw{v:Ŀ (Ŀ Za)}{y:Ŀ Za}(g:∀p∈v,Ñ p=true)(j:Ñ y=true)(l:v.length<=1000):
  (Js v y 0).wp (λo=>∃k:Nat,o=(k:Int)/\k<=v.length/\(∀i (h:i<v.length),i<k->ì v[i] y<0)/\(∀h:k<v.length,¬ì v[k] y<0)):=by
 refine Cq.Zn v.length (λk s=>s=(k:Int)/\k<=v.length/\∀i (h:i<v.length),i<k->ì v[i] y<0) ?_ ?_ ⟨rfl,Ĝ _,λi _ h=>absurd h (ı _)⟩
 .rintro k s d ⟨rfl,c,h2⟩
  refine Cq.wp.yes ŉ ⟨_,Κ d,_,Sn (g _ (Ă d)) j,?_⟩
  by_cases a:ì v[k] y<0
  .refine Cq.wp.yes a ⟨ψ ŉ,ŉ,λi hi f=>?_⟩
   by_cases e:i=k
   .subst e;exact a
   exact h2 i hi ŉ
  exact Cq.wp.no a ⟨k,rfl,c,h2,λ_=>a⟩
 rintro s ⟨rfl,c,h2⟩
 exact Cq.wp.no ŉ ⟨v.length,rfl,c,h2,λh=>absurd h (Nat.lt_irrefl _)⟩
theorem ZvX{v:Ŀ (Ŀ Za)}{y:Ŀ Za}(l:hK v){k:Nat}(t:k<=v.length)(m:∀i (h:i<v.length),i<k->ì v[i] y<0)(h2:∀h:k<v.length,0<ì v[k] y):
  hK (v.take k++([y]++v.drop k))/\∀z,z∈v.take k++([y]++v.drop k)↔z∈v\/z=y:=by
 have n:∀z∈v.drop k,0<ì z y:=λz f=>by
  obtain⟨j,d,rfl⟩:=ž f;rw[Ľ]at d;have il:k<v.length:=ŉ;rw[List.getElem_drop];have q:=h2 il;by_cases e:j=0
  .subst e;exact q
  have:=ħ.1 l k (k+j) il ŉ ŉ;have u:=qC v[k] y;have x:=qC v[k+j] y;have:=(yJ y v[k] v[k+j] ŉ ŉ).2 (.inl ŉ);omega
 refine⟨?_,λz=>?_⟩
 .unfold hK
  rw[ek]
  have ou:((v.take k)++v.drop k).Pairwise λa b=>ì a b<0:=by rw[Ń];exact l
  obtain⟨p,r,s⟩:=ek.1 ou
  refine⟨p,?_,λa g b c=>?_⟩
  .refine Į.2 ⟨λz f=>?_,r⟩
   have:=n z f
   have:=qC z y
   omega
  rcases Ď.1 c with rfl|c
  .obtain⟨j,d,rfl⟩:=ž g
   rw[Č]at d
   rw[aae]
   exact m j ŉ ŉ
  exact s a g b c
 have:z∈v↔z∈v.take k\/z∈v.drop k:=by rw[<-Ĩ,Ń]
 rw[this]
 simp only[Ĩ,Ď,ĝ,Ť,List.singleton_append]
 constructor
 .rintro (h|h|h)
  .exact .inl (.inl h)
  .exact .inr h
  exact .inl (.inr h)
 rintro ((h|h)|h)
 .exact .inl h
 .exact .inr (.inr h)
 exact .inr (.inl h)
def kept(l:Ŀ (Ŀ Za))(plain:Bool):Ŀ (Ŀ Za):=(l.map Χ).filter (gW plain)
theorem Fg{l:Ŀ (Ŀ Za)}(h:∀p∈l,ω p){plain:Bool}:∀q∈kept l plain,ω q:=λq a=>by obtain⟨p,hp,rfl⟩:=Ğ.1 (ō.1 a).1;exact vv (h p hp)
theorem AW(l:Ŀ (Ŀ Za))(plain:Bool){k:Nat}(a:k<l.length):kept (l.take (k+1)) plain=kept (l.take k) plain++(if gW plain (Χ l[k])=true then[Χ l[k]]else[]):=by unfold kept;rw[č a,ĩ,aa8];congr 1;simp only[Ġ,Ő,Ŏ,List.filter_nil]
structure kD (l:Ŀ (Ŀ Za)) (plain:Bool) (k:Nat) (v:Ŀ (Ŀ Za)):Prop where
 st:hK v
 mem:∀z,z∈v↔z∈kept (l.take k) plain
 len:v.length<=k
theorem kD.skip{l:Ŀ (Ŀ Za)}{plain:Bool}{k:Nat}{v:Ŀ (Ŀ Za)}(h:kD l plain k v)(a:k<l.length)(c:gW plain (Χ l[k])=false):kD l plain (k+1) v:=
 ⟨h.st,λz=>by rw[h.mem z,AW l plain a,c];simp,aav h.len⟩
theorem kD.same{l:Ŀ (Ŀ Za)}{plain:Bool}{k:Nat}{v:Ŀ (Ŀ Za)}(h:kD l plain k v)(c:k<l.length)(d:Χ l[k]∈v):kD l plain (k+1) v:=
 ⟨h.st,(λz=>by
  rw[h.mem z,AW l plain c,Ĩ];refine⟨.inl,λa=>?_⟩;rcases a with a|a
  .exact a
  split at a
  .rw[Ē]at a;subst a;exact(h.mem _).1 d
  cases a),aav h.len⟩
theorem kD.put{l:Ŀ (Ŀ Za)}{plain:Bool}{k:Nat}{v:Ŀ (Ŀ Za)}(h:kD l plain k v)(d:k<l.length)(e:gW plain (Χ l[k])=true){j:Nat}(c:j<=v.length)(a:∀i (h:i<v.length),i<j->ì v[i] (Χ l[k])<0)(h2:∀h:j<v.length,0<ì v[j] (Χ l[k])):
  kD l plain (k+1) (v.take j++([Χ l[k]]++v.drop j)):=by
 obtain⟨f,g⟩:=ZvX h.st c a h2
 refine⟨f,λz=>?_,?_⟩
 .rw[g z,h.mem z,AW l plain d,e,ą rfl,Ĩ,Ē]
 have:=h.len
 simp only[Ā,Č,Ľ,ė]
 omega
theorem R0{l:Ŀ (Ŀ Za)}{plain:Bool}{k:Nat}{v:Ŀ (Ŀ Za)}(h:kD l plain k v)(C:l.length<=100)(g:k<l.length)(A:gW plain (Χ l[k])=true)(hp:∀p∈l,ω p){j:Nat}(y:j<=v.length)(x:∀i (h:i<v.length),i<j->ì v[i] (Χ l[k])<0)(h2:∀h:j<v.length,¬ì v[j] (Χ l[k])<0)(q:∀p∈v,Ñ p=true):
  (if(j:Int)<(v.length:Int)then(Cq.Θ v (j:Int) λB=>Cq.bind (tQ B (Χ l[k])) λm=>if m=true then(Cq.ret (.inl (v,i64.wrap ((k:Int)+1))))else(tN v (k:Int) (Χ l[k]) (j:Int)))else(tN v (k:Int) (Χ l[k]) (j:Int))).wp (Out (λs=>∃f,s=(f,((k+1:Nat):Int))/\kD l plain (k+1) f) λr=>r=ef (kept l plain)):=by
 have n:=h.len
 have c:Ñ (Χ l[k])=true:=(vv (hp _ (Ă g))).gp
 have d:(∀h:j<v.length,0<ì v[j] (Χ l[k]))->(tN v (k:Int) (Χ l[k]) (j:Int)).wp (Out (λs=>∃f,s=(f,((k+1:Nat):Int))/\kD l plain (k+1) f) λr=>r=ef (kept l plain)):=λh2=>by
  unfold tN;have t:(v.take (v.length:Int).toNat).drop (j:Int).toNat=v.drop j:=by rw[Ĕ,Ĕ,ě (Ċ _)]
  have u:((v.take (j:Int).toNat).drop (0:Int).toNat)=v.take j:=by rw[Ĕ];rfl
  rw[t,u];refine⟨⟨ŉ,ŉ,ŉ⟩,?_,⟨ŉ,ŉ,ŉ⟩,?_,_,?_,h.put g A y x h2⟩
  .simp only[Ā,Ľ,ė,small];omega
  .simp only[Ā,Č,Ľ,ė,small];omega
  rw[ψ ŉ]
 by_cases a:j<v.length
 .refine Cq.wp.yes ŉ ⟨_,Κ a,_,Kf (q _ (Ă a)) c,?_⟩
  by_cases e:ì v[j] (Χ l[k])=0
  .refine Cq.wp.yes (ă e) ⟨_,by rw[ψ ŉ],h.same g (by rw[<-AR (q _ (Ă a)) c e];exact Ă a)⟩
  refine Cq.wp.no (by simpa using e) (d λ_=>?_)
  have:=h2 a
  omega
 exact Cq.wp.no ŉ (d λh=>absurd h a)
theorem PF{l:Ŀ (Ŀ Za)}(t:l.length<=100)(h:∀p∈l,ω p)(plain:Bool):(EZ l plain).Α (ef (kept l plain)):=by
 refine Cq.Zn l.length (λk s=>∃v,s=(v,(k:Int))/\kD l plain k v) ?_ ?_ ⟨[],rfl,List.Pairwise.nil,λz=>by simp[kept],Ĝ _⟩
 .rintro k s c ⟨v,rfl,hi⟩;have u:=hi.len;have y:=vv (h _ (Ă c));have a:=y.gp;have m:∀p∈v,Ñ p=true:=λp hp=>(Fg (λq B=>h q (ś B)) p ((hi.mem p).1 hp)).gp;refine Cq.wp.yes ŉ ⟨_,Κ c,_,PE (h _ (Ă c)),?_⟩;refine(Js v (Χ l[k]) 0).mono (λo ⟨j,i,r,n,h2⟩=>?_) (Zyw m a ŉ);subst i;show(Jt plain v (k:Int) (Χ l[k]) (j:Int)).wp _;unfold Jt;by_cases g:Χ l[k]=[]
  .refine Cq.wp.yes (by rw[g];rfl) ⟨v,by rw[ψ ŉ],hi.skip c (by rw[g];rfl)⟩
  have d:(Χ l[k]).isEmpty=false:=by simpa using g
  have A:(Χ l[k]).length≠0:=λe=>g (abq.1 e);refine Cq.wp.no ŉ ?_;cases plain with
  |true=>
   refine Cq.wp.yes rfl ⟨_,wS y,?_⟩;by_cases f:gf (Χ l[k])=0
   .refine Cq.wp.yes f ⟨v,by rw[ψ ŉ],hi.skip c (by unfold gW;rw[decide_eq_true f];simp)⟩
   refine Cq.wp.no f ?_;exact R0 hi t c (by unfold gW;rw[d,decide_eq_false f];rfl) h r n h2 m
  |false=>
   refine Cq.wp.no ĳ ?_;exact R0 hi t c (by unfold gW;rw[d];rfl) h r n h2 m
 rintro s ⟨v,rfl,hi⟩;refine Cq.wp.no ŉ ?_;have x:=hi.mem;rw[ě (Ċ _)]at x;exact VH (λp hp=>(Fg h p hp).gp) hi.st x
end Go.EL

namespace Go.EL
open Go.IntKind (i8 i16 i32 i64 u8 u16 u32 u64)
open Go Go.RowKit
def ku(b:Int):Bool:=decide (65<=b/\b<=90) || decide (97<=b/\b<=122)
def qj(b:Int):Bool:=decide (48<=b/\b<=57) || decide (b=95)
def ja(i:Nat)(b:Int):Bool:=ku b || (decide (0<i)&&qj b)
def je(s:Ĳ):Bool:=decide (1<=s.size/\s.size<=12)&&(List.range s.size).all λi=>ja i (eO s (i:Int))
theorem Vb{s:Ĳ}{i:Nat}(hi:i<s.size)(h:ja i (eO s (i:Int))=false):je s=false:=by unfold je;rw[aaE];right;rw[List.all_eq_false];exact⟨i,ĺ.2 hi,by rw[h];decide⟩
theorem Zym{s:Ĳ}(a:1<=s.size/\s.size<=12)(h:∀i,i<s.size->ja i (eO s (i:Int))=true):je s=true:=by unfold je;rw[ă a,ŝ,Ć];exact λi hi=>h i (ĺ.1 hi)
theorem Rw(b:Int):(Az b).Α (ku b):=by
 unfold Az ku;by_cases a:65<=b<;>by_cases h2:b<=90<;>by_cases h3:97<=b<;>simp[a,h2,h3]<;>first|rfl|omega
theorem ZxU(s:Ĳ):(FJ s).Α (je s):=by
 unfold FJ;by_cases n:(s.size:Int)<1
 .rw[ą n];show false=je s;unfold je;rw[ĉ ŉ,Ŭ]
 rw[ā n];by_cases h2:12<(s.size:Int)
 .rw[ą h2];show false=je s;unfold je;rw[ĉ ŉ,Ŭ]
 rw[ā h2];refine⟨ŉ,_,Rw _,?_⟩;rw[Cq.Zm];cases h3:ku (eO s 0)with
 |false=>
  rw[ą ĳ];exact(Vb (i:=0) ŉ (by unfold ja;rw[show((0:Nat):Int)=0 from rfl,h3];simp)).symm
 |true=>
  rw[ā ĳ];show(Cq.next _ _).wp _;refine Cq.Zn (s.size-1) (λk st=>st=((k+1:Nat):Int)/\∀i,i<k+1->ja i (eO s (i:Int))=true) (λk st r m=>?_) (λst m=>?_) ⟨rfl,λi hi=>?_⟩
  .obtain⟨rfl,hi⟩:=m;have f:∀{b:Int},b=eO s ((k+1:Nat):Int)->ja (k+1) b=true->∀i,i<k+1+1->ja i (eO s (i:Int))=true:=by
    intro b p q i l;by_cases e:i=k+1
    .subst e;rw[<-p];exact q
    exact hi i ŉ
   rw[Cq.Zm,ą ŉ];refine⟨ŉ,_,Rw _,?_⟩;cases j:ku (eO s ((k+1:Nat):Int))with
   |true=>exact⟨ψ ŉ,f rfl (by unfold ja;rw[j];rfl)⟩
   |false=>
    have g:qj (eO s ((k+1:Nat):Int))=false->false=je s:=λh=>(Vb (i:=k+1) ŉ (by unfold ja;rw[j,h];simp)).symm;have d:qj (eO s ((k+1:Nat):Int))=true->∀i,i<k+1+1->ja i (eO s (i:Int))=true:=λh=>f rfl (by unfold ja;rw[j,h];simp);refine⟨ŉ,?_⟩;rw[Cq.Zm];unfold qj at g d;split
    .refine⟨ŉ,?_⟩;rw[Cq.Zm];split
     .rename_i a b;exact⟨ψ ŉ,d (by rw[ă ⟨a,b⟩];rfl)⟩
     rename_i a b;refine⟨ŉ,?_⟩;rw[Cq.Zm];split
     .rename_i c;exact g (by rw[ĉ (λh=>b h.2),ĉ c];rfl)
     rename_i c;exact⟨ψ ŉ,d (by rw[ă (abh.1 c)];simp)⟩
    rename_i a;refine⟨ŉ,?_⟩;rw[Cq.Zm];split
    .rename_i c;exact g (by rw[ĉ (λh=>a h.1),ĉ c];rfl)
    rename_i c;exact⟨ψ ŉ,d (by rw[ă (abh.1 c)];simp)⟩
  .obtain⟨rfl,hi⟩:=m;rw[Cq.Zm,ā ŉ];exact(Zym ŉ λi l=>hi i ŉ).symm
  obtain rfl:i=0:=ŉ;unfold ja;rw[show((0:Nat):Int)=0 from rfl,h3];rfl
end Go.EL

namespace Go.EL
open Go.IntKind (i8 i16 i32 i64 u8 u16 u32 u64)
open Go Go.RowKit
structure ig (n:Nat) (next:Int) (l:Ŀ Zo):Prop where
 len:l.length<=12
 ids:∀q∈l,1<=q.id/\q.id<next
 inc:l.Pairwise λa b=>a.id<b.id
 hZ:∀q∈l,ω q.p/\Ð q.p (n:Int)=true
structure Good (s:Zx):Prop where
 vars:s.vars.length<=4
 name:∀v∈s.vars,je v=true
 diff:s.vars.Pairwise λa b=>a≠b
 next:1<=s.next/\s.next<=1000000
 eqs:ig s.vars.length s.next s.eqs
 ε:ig s.vars.length s.next s.ε
 apart:∀a∈s.eqs,∀b∈s.ε,a.id≠b.id
theorem Kz{p:Ŀ Za}(h:ω p){n:Nat}(c:n<=4)(g:Ð p (n:Int)=true):(yH p (n:Int)).Α true:=by
 obtain⟨f,h2⟩:=(pz (p:=p) (n:=n) ŉ).1 g;have e:u64.wrap (n:Int)=(n:Int):=by
  match n,c with
  |0,_=>rfl
  |1,_=>rfl
  |2,_=>rfl
  |3,_=>rfl
  |4,_=>rfl
 refine⟨true,Aa h,_,wS h,?_⟩;rw[Cq.Zm,ą ((tw ŉ).2 h2)];refine⟨_,z8 h.len,by rw[e];omega,?_⟩;have i:=tX p;have d:=yF.2 f;rw[Ű]at d;have a:(ï p).toNat<2 ^ n:=by
  rcases eG.1 d with h|h
  .have:=aab n;omega
  exact h
 show _=_;rw[e,wrap64 ŉ];refine ă ?_;match n,c with
 |0,_=>exact ő (show ï p<1 by simp at a;omega) ĳ
 |1,_=>exact ő (show ï p<2 by simp at a;omega) ĳ
 |2,_=>exact ő (show ï p<4 by simp at a;omega) ĳ
 |3,_=>exact ő (show ï p<8 by simp at a;omega) ĳ
 |4,_=>exact ő (show ï p<16 by simp at a;omega) ĳ
theorem TB{n:Nat}(e:n<=4){next:Int}{l:Ŀ Zo}(h:ig n next l):(A6 l (n:Int) next).Α true:=by
 have m:=h.len;unfold A6;rw[ā ŉ];show(Cq.next _ _).wp _;refine Cq.Zn l.length (λk s=>s=(k:Int)) (λk s a c=>?_) (λs c=>?_) rfl
 .subst c;have f:=h.ids _ (Ă a);obtain⟨hp,d⟩:=h.hZ _ (Ă a);rw[Cq.Zm,ą ŉ];refine⟨l[k],Κ a,?_⟩;rw[Cq.Zm,ā ŉ];refine⟨l[k],Κ a,?_⟩;rw[Cq.Zm,ā ŉ,Cq.Zm];split
  .rename_i i;obtain⟨j,rfl⟩:∃j,k=j+1:=⟨k-1,ŉ⟩;have g:i64.wrap (((j+1:Nat):Int)-1)=(j:Int):=by rw[wrap64 ŉ];omega
   rw[g];have:=ħ.1 h.inc j (j+1) ŉ a ŉ;refine⟨l[j],Κ ŉ,l[j+1],Κ a,?_⟩;rw[Cq.Zm,ā ŉ];refine⟨l[j+1],Κ a,true,Kz hp e d,?_⟩;rw[Cq.Zm,ā ĳ];exact ψ ŉ
  refine⟨l[k],Κ a,true,Kz hp e d,?_⟩;rw[Cq.Zm,ā ĳ];exact ψ ŉ
 subst c;rw[Cq.Zm,ā ŉ];rfl
theorem ZpE{s:Zx}(h:Good s):(E8 s).Α true:=by
 have f:=h.vars;have l:=h.next;have i:=h.eqs.len;have g:=h.ε.len;unfold E8;rw[ā ŉ,ā ŉ,ā ŉ];refine⟨true,TB f h.eqs,true,TB f h.ε,?_⟩;rw[Cq.Zm,ā ĳ];show(Cq.next _ _).wp _;refine Cq.Zn s.vars.length (λk st=>st=(k:Int)) (λk st c a=>?_) (λst a=>?_) rfl
 .subst a;rw[Cq.Zm,ą ŉ];show(Cq.next _ _).wp _;refine Cq.Zn k (λj st=>st=(j:Int)) (λj st d a=>?_) (λst a=>?_) rfl
  .subst a;have:=ħ.1 h.diff j k ŉ c d;rw[Cq.Zm,ą ŉ];refine⟨s.vars[k],Κ c,s.vars[j],Κ ŉ,?_⟩;rw[Cq.Zm,ā (λe=>this e.symm)];exact ψ ŉ
  subst a;rw[Cq.Zm,ā ŉ];show(Qu s (k:Int)).wp _;refine⟨s.vars[k],Κ c,_,ZxU _,?_⟩;rw[h.name _ (Ă c),Cq.Zm,ā ĳ];exact ψ ŉ
 subst a;rw[Cq.Zm,ā ŉ];show(Qt s).wp _;show(Cq.next _ _).wp _;refine Cq.Zn s.eqs.length (λk st=>st=(k:Int)) (λk st c a=>?_) (λst a=>?_) rfl
 .subst a;rw[Cq.Zm,ą ŉ];show(Cq.next _ _).wp _;refine Cq.Zn s.ε.length (λj st=>st=(j:Int)) (λj st d a=>?_) (λst a=>?_) rfl
  .subst a;rw[Cq.Zm,ą ŉ];refine⟨s.eqs[k],Κ c,s.ε[j],Κ d,?_⟩;rw[Cq.Zm,ā (h.apart _ (Ă c) _ (Ă d))];exact ψ ŉ
  subst a;rw[Cq.Zm,ā ŉ];exact ψ ŉ
 subst a;rw[Cq.Zm,ā ŉ];rfl
end Go.EL

namespace Go.EL
open Go.IntKind (i8 i16 i32 i64 u8 u16 u32 u64)
open Go Go.RowKit
abbrev Ù:=Ŀ Za
instance BI:DecidableEq Za:=λ⟨a1,a2⟩ ⟨a,c⟩=>decidable_of_iff (a1=a/\a2=c) ß
def iW:Ù:=[⟨ü 1,λ_=>0⟩]
def iK:Zb:=⟨0,[],[]⟩
def gI(l:Ŀ Ù):Ŀ Ù:=(l.filter λp=>p.isEmpty).map λ_=>iW
def hN(eqs ε:Ŀ Ù):Ŀ Ù:=kept eqs false++gI ε
def im(n:Int)(eqs ε:Ŀ Ù):Zb×Int:=
 if 1<=n/\n<=4 then
  if(eqs++ε).all (λp=>Ð p n)=true then
   if 12<(ef (hN eqs ε)).length then(iK,2)
   else if 12<(ef (kept ε true)).length then(iK,2)
   else(⟨n,ef (hN eqs ε),ef (kept ε true)⟩,0)
  else(iK,1)
 else(iK,1)
theorem Bj:ω iW where
 ord:=ũ _ _
 th:=λt a=>by rw[iW,Ē]at a;subst a;exact⟨⟨1,rfl,ĳ,ĳ,ĳ⟩,N9⟩
 len:=ĳ
theorem LO:Χ iW=iW:=by decide +kernel
theorem Se:∀l:Ŀ Ù,kept (gI l) false=gI l
 |[]=>rfl
 |p::l=>by
  have a:=Se l;unfold gI at a⊢;rw[Ŏ];split
  .rw[Ġ];show(Χ iW::List.map Χ _).filter _=_;rw[Ŏ,ą (by rw[LO];rfl),LO];exact đ _ a
  exact a
theorem ZtJ(a b:Ŀ Ù)(plain:Bool):kept (a++b) plain=kept a plain++kept b plain:=by unfold kept;rw[List.map_append,List.filter_append]
theorem LP{l:Ŀ Ù}:∀p∈gI l,p=iW:=λp hp=>by obtain⟨_,_,h⟩:=Ğ.1 hp;exact h.symm
theorem FU(l:Ŀ Ù):(gI l).length<=l.length:=by unfold gI;rw[List.length_map];exact List.length_filter_le _ _
theorem vn(l:Ŀ Ù)(plain:Bool):(kept l plain).length<=l.length:=by unfold kept;exact Nat.le_trans (List.length_filter_le _ _) (Nat.le_of_eq (List.length_map _))
theorem Tl(a b:Ŀ Ù):(hN a b).length<=a.length+b.length:=by have:=vn a false;have:=FU b;unfold hN;rw[Ā];omega
theorem Zzu{a b:Ŀ Ù}(c:∀p∈a,ω p):∀p∈hN a b,ω p:=λp hp=>by
 rcases Ĩ.1 hp with h|h
 .exact Fg c p h
 rw[LP p h];exact Bj
theorem KC{p:Ù}(h:ω p)(a:p≠[]):0<=gf p:=by
 obtain⟨t,c⟩:=abb _ a;by_cases d:gf p<=-1
 .have:=(tw ĳ).1 d t c;have e:=(FC (h.th t c).m 8).1;unfold fH at this;omega
 omega
theorem ZtU{p:Ù}(h:ω p){n:Nat}(i:n<=4):(yH p (n:Int)).Α (Ð p (n:Int)):=by
 cases g:Ð p (n:Int)with
 |true=>exact Kz h i g
 |false=>
  have j:¬(lC n p/\∀t∈p,fH t.m<=12):=λc=>by rw[(pz ŉ).2 c]at g;cases g
  refine⟨true,Aa h,_,wS h,?_⟩;by_cases f:gf p<=12
  .have c:¬lC n p:=λc=>j ⟨c,(tw ĳ).1 f⟩;have m:=tX p;have k:¬(ï p).toNat >>> n=0:=λe=>c (yF.1 e);rw[Ű]at k;have a:2 ^ n<=(ï p).toNat:=by
    by_cases l:(ï p).toNat<2 ^ n
    .exact absurd (aaJ l) k
    omega
   have d:u64.wrap (n:Int)=(n:Int):=by
    match n,i with
    |0,_=>rfl
    |1,_=>rfl
    |2,_=>rfl
    |3,_=>rfl
    |4,_=>rfl
   refine Cq.wp.yes f ⟨_,z8 h.len,by rw[d];omega,?_⟩;show _=_;rw[d,wrap64 ŉ];refine ĉ ?_;match n,i with
   |0,_=>exact aaI.2 (x9 ĳ (show(1:Int)<=ï p by simp at a;omega))
   |1,_=>exact aaI.2 (x9 ĳ (show(2:Int)<=ï p by simp at a;omega))
   |2,_=>exact aaI.2 (x9 ĳ (show(4:Int)<=ï p by simp at a;omega))
   |3,_=>exact aaI.2 (x9 ĳ (show(8:Int)<=ï p by simp at a;omega))
   |4,_=>exact aaI.2 (x9 ĳ (show(16:Int)<=ï p by simp at a;omega))
  exact Cq.wp.no f rfl
theorem Ui{l:Ŀ Ù}(m:l.length<=100)(h:∀p∈l,ω p){n:Nat}(j:n<=4):(F5 l (n:Int)).Α (l.all λp=>Ð p (n:Int)):=by
 refine(RC l (n:Int) 0).mono (p:=λo=>match o with|.inl v=>v=l.all λp=>Ð p (n:Int)|.inr ()=>(l.all λp=>Ð p (n:Int))=true) (λo h=>?_) (Cq.Zn l.length (λk s=>s=(k:Int)/\∀i (h:i<l.length),i<k->Ð l[i] (n:Int)=true) ?_ ?_ ⟨rfl,λi _ h=>absurd h (ı _)⟩)
 .match o,h with
  |.inl v,h=>exact h
  |.inr (),h=>exact h.symm
 .rintro k s d ⟨rfl,c⟩;refine Cq.wp.yes ŉ ⟨_,Κ d,_,ZtU (h _ (Ă d)) j,?_⟩;by_cases a:Ð l[k] (n:Int)=true
  .rw[a];refine Cq.wp.no ĳ ⟨ψ ŉ,λi hi g=>?_⟩;by_cases e:i=k
   .subst e;exact a
   exact c i hi ŉ
  rw[ź.2 a];refine Cq.wp.yes ĳ ?_;show false=_;refine(ź.2 λf=>?_).symm;exact a (Ć.1 f _ (Ă d))
 rintro s ⟨rfl,c⟩;refine Cq.wp.no ŉ ?_;refine Ć.2 λp hp=>?_;obtain⟨i,hi,rfl⟩:=ž hp;exact c i hi hi
theorem Zvl{a b:Ŀ Ù}(f:a.length<=100)(g:b.length<=100):(I1 [a,b]).Α (a++b):=by
 refine Cq.Zn 2 (λk s=>s=(if k=0 then 0 else if k=1 then(a.length:Int)else(a.length:Int)+(b.length:Int),(k:Int))) (λk s d c=>?_) (λs c=>?_) rfl
 .subst c;have e:k=0\/k=1:=ŉ;rcases e with rfl|rfl
  .refine Cq.wp.yes (by show(0:Int)<2;decide) ⟨a,⟨ĳ,rfl⟩,?_⟩;have:i64.wrap (0+(a.length:Int))=(a.length:Int):=by rw[wrap64 ŉ];omega
   refine Cq.wp.no (by rw[ą rfl,this];omega) ?_;show _=_;rw[ą rfl,this];rfl
  refine Cq.wp.yes (by show(1:Int)<2;decide) ⟨b,⟨ĳ,rfl⟩,?_⟩;have:i64.wrap ((a.length:Int)+(b.length:Int))=(a.length:Int)+(b.length:Int):=by rw[wrap64 ŉ]
  refine Cq.wp.no (by rw[ā ĳ,ą rfl,this];omega) ?_;show _=_;rw[ā ĳ,ą rfl,this];rfl
 subst c;refine Cq.wp.no (by show ¬(2:Int)<2;decide) ?_;refine⟨[],⟨⟨?_,?_⟩,rfl⟩,?_⟩
 .rw[ā ĳ,ā ĳ];omega
 .rw[ā ĳ,ā ĳ];omega
 refine Cq.Zn 2 (λk s=>s=(if k=0 then[]else if k=1 then a else a++b,(k:Int))) (λk s d c=>?_) (λs c=>?_) rfl
 .subst c;have e:k=0\/k=1:=ŉ;rcases e with rfl|rfl
  .refine Cq.wp.yes (by show(0:Int)<2;decide) ⟨a,⟨ĳ,rfl⟩,?_,?_⟩
   .rw[ą rfl,Ļ];simp only[small];omega
   show _=_;rw[ą rfl,Ļ];rfl
  refine Cq.wp.yes (by show(1:Int)<2;decide) ⟨b,⟨ĳ,rfl⟩,?_,?_⟩
  .rw[ā ĳ,ą rfl,Ā];simp only[small];omega
  show _=_;rw[ā ĳ,ą rfl];rfl
 subst c;refine Cq.wp.no (by show ¬(2:Int)<2;decide) ?_;show _=_;rw[ā ĳ,ā ĳ]
theorem vw{n:Int}(h:1<=n/\n<=4):∃m:Nat,n=(m:Int)/\1<=m/\m<=4:=⟨n.toNat,ŉ,ŉ,ŉ⟩
theorem uJ:(wM 1).Α (ü 1):=Cq.Α.l8 20 (by decide +kernel)
theorem qa:(DR (ü 1)).Α iW:=Cq.Α.l8 20 (by decide +kernel)
theorem uL:(ZX 1).Α (ü 1):=Cq.Α.l8 20 (by decide +kernel)
theorem qd:(Eo (ü 1)).Α iW:=Cq.Α.l8 20 (by decide +kernel)
theorem QS{l:Ŀ Ù}(a:l.length<=100)(h:∀p∈l,ω p):(D3 l).Α (ef l):=⟨⟨a,Ć.2 λp hp=>(h p hp).gp⟩,rfl⟩
theorem RT(l:Ŀ Ù){k:Nat}(a:k<l.length):gI (l.take (k+1))=gI (l.take k)++(if l[k]=[]then[iW]else[]):=by
 unfold gI;rw[č a,aa8,ĩ];congr 1;rw[Ŏ];by_cases h:l[k]=[]
 .rw[ą (by simpa using h),ą h];rfl
 rw[ā (by simpa using h),ā h];rfl
theorem ZtB{n:Int}{eqs ε:Ŀ Ù}(le:eqs.length<=40)(ln:ε.length<=40)(t:∀p∈eqs,ω p)(u:∀p∈ε,ω p):(D2 n eqs ε).Α (im n eqs ε):=by
 unfold im;by_cases g:n<1
 .rw[ā (show ¬(1<=n/\n<=4) by omega)];exact Cq.wp.yes g rfl
 refine Cq.wp.no g ?_;by_cases A:4<n
 .rw[ā (show ¬(1<=n/\n<=4) by omega)];exact Cq.wp.yes A rfl
 refine Cq.wp.no A ?_;rw[ą ⟨ŉ,ŉ⟩];obtain⟨m,rfl,N,O⟩:=vw ⟨show 1<=n by omega,ŉ⟩;have q:∀p∈eqs++ε,ω p:=λp hp=>(Ĩ.1 hp).elim (t p) (u p);refine⟨eqs++ε,Zvl ŉ ŉ,?_⟩;have C:(eqs++ε).length<=100:=by rw[Ā];omega
 generalize L:eqs++ε=l at *;refine(Po (m:Int) l (0,iK)).mono (p:=λo=>match o with|.inl v=>v=(iK,1)/\(l.all λp=>Ð p (m:Int))=false|.inr _=>(l.all λp=>Ð p (m:Int))=true) (λo h=>?_) (Cq.Zn l.length (λk s=>s=((k:Int),iK)/\∀i (h:i<l.length),i<k->Ð l[i] (m:Int)=true) ?_ ?_ ⟨rfl,λi _ h=>absurd h (ı _)⟩);rotate_left
 .rintro k s a ⟨rfl,g⟩;refine Cq.wp.yes ŉ ⟨_,Κ a,_,Znv (q _ (Ă a)) ŉ,?_⟩;by_cases j:Ð l[k] (m:Int)=true
  .rw[j];refine Cq.wp.no ĳ ⟨by rw[ψ ŉ],λi hi G=>?_⟩;by_cases e:i=k
   .subst e;exact j
   exact g i hi ŉ
  rw[ź.2 j];refine Cq.wp.yes ĳ ⟨rfl,ź.2 λr=>?_⟩;exact j (Ć.1 r _ (Ă a))
 .rintro s ⟨rfl,g⟩;refine Cq.wp.no ŉ ?_;refine Ć.2 λp hp=>?_;obtain⟨i,hi,rfl⟩:=ž hp;exact g i hi hi
 match o,h with
 |.inl v,⟨I,j⟩=>rw[j,ā ĳ];exact I
 |.inr _,r=>
  rw[ą r];show(Pr (m:Int) eqs ε).Α _;refine Cq.Zn eqs.length (λk s=>s=(kept (eqs.take k) false,(k:Int))) (λk s a d=>?_) (λs d=>?_) rfl
  .subst d;refine Cq.wp.yes ŉ ⟨_,Κ a,?_⟩;have d:=AW eqs false a;have:=vn (eqs.take k) false;rw[Č]at this;by_cases c:eqs[k]=[]
   .refine Cq.wp.no (by rw[c];decide) ?_;show _=_;rw[d,c,ā ĳ,Ę,ψ ŉ]
   have hp:0<eqs[k].length:=Š.2 c;refine Cq.wp.yes ŉ ⟨_,Kj (t _ (Ă a)) c,?_,?_⟩
   .rw[Ā,ė];simp only[small];omega
   show _=_;have a:gW false (Χ eqs[k])=true:=by
    have:(Χ eqs[k]).isEmpty=false:=by simpa using λe=>c (Bb.1 e)
    unfold gW;rw[this];rfl
   rw[d,a,ą rfl,ψ ŉ]
  subst d;refine Cq.wp.no ŉ ?_;rw[ě (Ċ _)];show(Pq (m:Int) ε (kept eqs false)).Α _;refine Cq.Zn ε.length (λk s=>s=(kept eqs false++gI (ε.take k),kept (ε.take k) true,(k:Int))) (λk s a d=>?_) (λs d=>?_) (by show _=_;rw[ř];show _=(kept eqs false++[],_,_);rw[Ę];rfl)
  .subst d;have d:=AW ε true a;have y:=RT ε a;have D:=vn (ε.take k) true;have J:=vn eqs false;have K:=FU (ε.take k);rw[Č]at D K;refine Cq.wp.yes ŉ ⟨_,Κ a,?_⟩;by_cases c:ε[k]=[]
   .refine Cq.wp.yes (by rw[c];rfl) ⟨_,uJ,_,qa,?_,?_⟩
    .rw[Ā,Ā,ė];simp only[small];omega
    show _=_;rw[d,y,c,ą rfl,ā ĳ,Ę,ψ ŉ,Đ]
   have hp:0<ε[k].length:=Š.2 c;have f:=u _ (Ă a);have x:(Χ ε[k]).isEmpty=false:=by simpa using λe=>c (Bb.1 e)
   have H:=KC f c;refine Cq.wp.no ŉ ⟨_,yu f,?_⟩;by_cases B:0<gf ε[k]
   .refine Cq.wp.yes B ⟨_,Kj f c,?_,?_⟩
    .rw[Ā,ė];simp only[small];omega
    show _=_;have a:gW true (Χ ε[k])=true:=by unfold gW;rw[x,xr,decide_eq_false ŉ];rfl
    rw[d,y,ā c,a,ą rfl,ψ ŉ,Ę]
   refine Cq.wp.no B ?_;show _=_;have a:gW true (Χ ε[k])=false:=by unfold gW;rw[xr,decide_eq_true ŉ];simp
   rw[d,y,ā c,a,ā ĳ,ψ ŉ,Ę,Ę]
  subst d;refine Cq.wp.no ŉ ?_;rw[ě (Ċ _)];show(Pp (m:Int) (hN eqs ε) (kept ε true)).Α _;have D:=Tl eqs ε;have J:=vn ε true;refine⟨_,QS ŉ (Zzu t),_,QS ŉ (Fg u),?_⟩;by_cases E:12<(ef (hN eqs ε)).length
  .rw[ą E];exact Cq.wp.yes ŉ rfl
  rw[ā E];refine Cq.wp.no ŉ ?_;by_cases F:12<(ef (kept ε true)).length
  .rw[ą F];exact Cq.wp.yes ŉ rfl
  rw[ā F];exact Cq.wp.no ŉ rfl
theorem Q5{n:Int}{eqs ε:Ŀ Ù}(le:eqs.length<=40)(ln:ε.length<=40)(g:∀p∈eqs,ω p)(j:∀p∈ε,ω p):(E1 n eqs ε).Α (im n eqs ε):=by
 unfold im;by_cases d:n<1
 .rw[ā (show ¬(1<=n/\n<=4) by omega)];exact Cq.wp.yes d rfl
 refine Cq.wp.no d ?_;by_cases f:4<n
 .rw[ā (show ¬(1<=n/\n<=4) by omega)];exact Cq.wp.yes f rfl
 refine Cq.wp.no f ?_;rw[ą ⟨ŉ,ŉ⟩];obtain⟨m,rfl,A,r⟩:=vw ⟨show 1<=n by omega,ŉ⟩;refine⟨_,Ui ŉ g r,?_⟩;rw[List.all_append];cases x:eqs.all λp=>Ð p (m:Int)with
 |false=>exact rfl
 |true=>
 refine⟨_,Ui ŉ j r,?_⟩;cases y:ε.all λp=>Ð p (m:Int)with
 |false=>exact Cq.wp.yes ĳ rfl
 |true=>
 refine Cq.wp.no ĳ ?_;rw[ą ĳ];refine⟨?_,?_⟩
 .rw[Ļ];simp only[small];omega
 rw[Ļ];refine Cq.Zn ε.length (λk s=>s=(eqs++gI (ε.take k),(k:Int))) (λk s i c=>?_) (λs c=>?_) (by show _=_;rw[ř];show _=(eqs++[],_);rw[Ę];rfl)
 .subst c;have l:=RT ε i;have q:=FU (ε.take k);rw[Č]at q;refine Cq.wp.yes ŉ ⟨_,Κ i,?_⟩;by_cases a:ε[k]=[]
  .refine Cq.wp.yes (by rw[a];rfl) ⟨_,uL,_,qd,?_,?_⟩
   .rw[Ā,Ā,ė];simp only[small];omega
   show _=_;rw[l,a,ą rfl,ψ ŉ,Đ]
  have hp:0<ε[k].length:=Š.2 a;refine Cq.wp.no ŉ ?_;show _=_;rw[l,ā a,ψ ŉ,Ę]
 subst c;refine Cq.wp.no ŉ ?_;rw[ě (Ċ _)];show(P3 (m:Int) ε (eqs++gI ε)).Α _;have q:=FU ε;have v:∀p∈eqs++gI ε,ω p:=λp hp=>(Ĩ.1 hp).elim (g p) (λh=>by rw[LP p h];exact Bj);have e:kept (eqs++gI ε) false=hN eqs ε:=by rw[ZtJ,Se];rfl
 refine⟨_,PF (by rw[Ā];omega) v false,_,PF ŉ j true,?_⟩;rw[e];by_cases t:12<(ef (hN eqs ε)).length
 .rw[ą t];exact Cq.wp.yes ŉ rfl
 rw[ā t];refine Cq.wp.no ŉ ?_;by_cases u:12<(ef (kept ε true)).length
 .rw[ą u];exact Cq.wp.yes ŉ rfl
 rw[ā u];exact Cq.wp.no ŉ rfl
end Go.EL

